/- Lemmas for the claim, merged: the plain reading of the program's functions, its soundness, and what they compute. -/
import Derived.Test.YtgpofjbdjiajeaaGreatDoorPkF
import Derived.KernelRfl
import Derived.ChangeSlices
import Derived.LaidHandle
open List renaming append_assoc→Ud,append_nil→UI,cons_append→UA,drop→Wb,drop_zero→U7,eq_nil_of_length_eq_zero→Ue,flatMap_cons→U8,getD→Ul,getElem?_eq_getElem→TP,getElem?_eq_some_iff→TQ,getElem?_map→UC,getElem?_take→Uw,headD→UL,headD_cons→Uc,length→US,length_append→Ug,length_cons→Ua,length_drop→Uv,length_map→Ui,length_nil→Uh,length_set→Ws,length_take→Vo,map_append→V0,map_congr_left→VB,map_cons→UE,map_nil→VL,map_take→Wm,mem_map→Vy,mem_of_mem_take→U0,mem_range→Wk,mem_singleton→Wl,nil_append→UV,range→Vr,replicate→TZ,singleton_append→Vt,tail→Uf,tail_cons→Um,take→Wp,take_append_drop→U9
open Int renaming le_refl→VJ,tmod→Vn,tmod_eq_emod_of_nonneg→VQ,toNat→TO,toNat_natCast→TW,toNat_zero→VP
open Nat renaming add_zero→U2,eq_zero_or_pos→VH,le_refl→TY,lt_or_ge→VM,zero_add→UD,zero_le→Wd
open Bool renaming and_self→Wq,false_eq_true→TL,not_false→UJ,not_true→UP,true_eq_false→VY
open Option renaming bind→TN,isNone→UY,isNone_none→U5,isNone_some→UW,or→Wz
open Array renaming getElem?_eq_none→Vk
open UInt8 renaming ofNat→Uo,toNat_inj→Wc,toNat_ofNat'→Vm
open Go.IntKind renaming bits→Uz,i64→TM,signed→Wv,u8→UT,wrap→TK
set_option linter.all false
set_option linter.unusedVariables false
set_option linter.unusedSimpArgs false
section
namespace Go.Proofs.YtgpofjbdjiajeaaGreatDoor
open Go.Ev Go
open List (headD tail getD length drop take)
open V (getI getL getT getS getB)
set_option maxRecDepth 100000
variable (call : FuncId → Fun) (icall : aN (V × List Ob)) (again : List It → St → Option (V × List Ob))
def pM (call:FuncId→Fun) (ag0:Int→Int→Int→Int→List V→Int→Bool→Nat→V→Int→Int→Int→Int→Int→List V→List V→Int→Int→Int→Int→Int→Int→Int→List V→List V→Int→Int→Option (V×List Ob)) (i0:Int) (i1:Int) (i2:Int) (i3:Int) (l4:List V) (i5:Int) (b6:Bool) (t7:Nat) (v8:V) (i9:Int) (i10:Int) (i11:Int) (i12:Int) (i13:Int) (l14:List V) (l15:List V) (i16:Int) (i17:Int) (i18:Int) (i19:Int) (i20:Int) (i21:Int) (i22:Int) (l23:List V) (l24:List V) (i25:Int) (i26:Int):Option (V×List Ob):=
 TN (if(decide (i3<i2))=true then
 some b6
 else
 some false) fun y0=>
 if y0=true then
 TN (call 47 [(V.ref 0 0),(V.int .i64 i0)] [(Ob.cells [(V.lst 5 false l4),(V.int .i64 i5),(V.ifo b6 t7 v8)])]) fun z1=>
 TN (call 25 [(V.ref 0 0),(V.int .i64 (getI (headD (tail (V.cells z1.1)) V.bot))),(V.int .i64 (TK .i64 (i1+(1:Int))))] [(Ob.cells [(V.lst 5 false (getL (headD (Ob.getC (headD z1.2 Ob.dead)) V.bot))),(V.int .i64 (getI (headD (tail (Ob.getC (headD z1.2 Ob.dead))) V.bot))),(V.ifo (V.ifN (headD (tail (tail (Ob.getC (headD z1.2 Ob.dead)))) V.bot)) (V.ifT (headD (tail (tail (Ob.getC (headD z1.2 Ob.dead)))) V.bot)) (V.ifV (headD (tail (tail (Ob.getC (headD z1.2 Ob.dead)))) V.bot)))])]) fun z2=>
 chk (cE l24 [(V.agg [(V.int .i64 (getI (headD (V.cells z1.1) V.bot))),(V.int .i64 (getI (headD (tail (V.cells z1.1)) V.bot)))])] 17) (chk (cE l23 [(V.agg [(V.int .i64 (getI (headD (V.cells z2.1) V.bot))),(V.int .i64 (getI (headD (tail (V.cells z2.1)) V.bot))),(V.int .i64 (getI (headD (tail (tail (V.cells z2.1))) V.bot))),(V.int .i64 (getI (headD (tail (tail (tail (V.cells z2.1)))) V.bot))),(V.int .i64 (getI (headD (tail (tail (tail (tail (V.cells z2.1))))) V.bot))),(V.lst 31 false (getL (headD (tail (tail (tail (tail (tail (V.cells z2.1)))))) V.bot))),(V.lst 27 false (getL (headD (tail (tail (tail (tail (tail (tail (V.cells z2.1))))))) V.bot))),(V.int .i64 (getI (headD (tail (tail (tail (tail (tail (tail (tail (V.cells z2.1)))))))) V.bot))),(V.int .i64 (getI (headD (tail (tail (tail (tail (tail (tail (tail (tail (V.cells z2.1))))))))) V.bot)))])] 105) ((ag0 ((getI (headD (tail (tail (tail (tail (V.cells z2.1))))) V.bot))) (i1) (i2) ((TK .i64 (i3+(1:Int)))) ((getL (headD (Ob.getC (headD z2.2 Ob.dead)) V.bot))) ((getI (headD (tail (Ob.getC (headD z2.2 Ob.dead))) V.bot))) ((V.ifN (headD (tail (tail (Ob.getC (headD z2.2 Ob.dead)))) V.bot))) ((V.ifT (headD (tail (tail (Ob.getC (headD z2.2 Ob.dead)))) V.bot))) ((V.ifV (headD (tail (tail (Ob.getC (headD z2.2 Ob.dead)))) V.bot))) (i9) (i10) (i11) (i12) (i13) (l14) (l15) (i16) (i17) (i18) (i19) (i20) (i21) (i22) ((l23++[(V.agg [(V.int .i64 (getI (headD (V.cells z2.1) V.bot))),(V.int .i64 (getI (headD (tail (V.cells z2.1)) V.bot))),(V.int .i64 (getI (headD (tail (tail (V.cells z2.1))) V.bot))),(V.int .i64 (getI (headD (tail (tail (tail (V.cells z2.1)))) V.bot))),(V.int .i64 (getI (headD (tail (tail (tail (tail (V.cells z2.1))))) V.bot))),(V.lst 31 false (getL (headD (tail (tail (tail (tail (tail (V.cells z2.1)))))) V.bot))),(V.lst 27 false (getL (headD (tail (tail (tail (tail (tail (tail (V.cells z2.1))))))) V.bot))),(V.int .i64 (getI (headD (tail (tail (tail (tail (tail (tail (tail (V.cells z2.1)))))))) V.bot))),(V.int .i64 (getI (headD (tail (tail (tail (tail (tail (tail (tail (tail (V.cells z2.1))))))))) V.bot)))])])) ((l24++[(V.agg [(V.int .i64 (getI (headD (V.cells z1.1) V.bot))),(V.int .i64 (getI (headD (tail (V.cells z1.1)) V.bot)))])])) (i25) (i26))))
 else
 TN (call 47 [(V.ref 0 0),(V.int .i64 i0)] [(Ob.cells [(V.lst 5 false l4),(V.int .i64 i5),(V.ifo b6 t7 v8)])]) fun z1=>
 some ((V.agg [(V.int .i64 i18),(V.int .i64 i19),(V.int .i64 i20),(V.int .i64 i21),(V.int .i64 i22),(V.lst 31 false l23),(V.lst 27 false l24),(V.int .i64 (getI (headD (V.cells z1.1) V.bot))),(V.int .i64 (getI (headD (tail (V.cells z1.1)) V.bot)))]),[(Ob.cells [(V.lst 5 false (getL (headD (Ob.getC (headD z1.2 Ob.dead)) V.bot))),(V.int .i64 (getI (headD (tail (Ob.getC (headD z1.2 Ob.dead))) V.bot))),(V.ifo (V.ifN (headD (tail (tail (Ob.getC (headD z1.2 Ob.dead)))) V.bot)) (V.ifT (headD (tail (tail (Ob.getC (headD z1.2 Ob.dead)))) V.bot)) (V.ifV (headD (tail (tail (Ob.getC (headD z1.2 Ob.dead)))) V.bot)))])])
def T25 (call:FuncId→Fun) (ag0:Int→Int→Int→Int→List V→Int→Bool→Nat→V→Int→Int→Int→Int→Int→List V→List V→Int→Int→Int→Int→Int→Int→Int→List V→List V→Int→Int→Option (V×List Ob)) (a0:List V) (a1:Int) (a2:Bool) (a3:Nat) (a4:V) (a5:Int) (a6:Int):Option (V×List Ob):=
 TN (call 22 [(V.ref 0 0)] [(Ob.cells [(V.lst 5 false a0),(V.int .i64 a1),(V.ifo a2 a3 a4)])]) fun z0=>
 TN (if(decide ((getI z0.1)>(2:Int)))=false then
 some (decide (a6>(32:Int)))
 else
 some true) fun y1=>
 if y1=true then
 TN (call 23 [(V.ref 0 0),(V.int .i64 11)] [(Ob.cells [(V.lst 5 false (getL (headD (Ob.getC (headD z0.2 Ob.dead)) V.bot))),(V.int .i64 (getI (headD (tail (Ob.getC (headD z0.2 Ob.dead))) V.bot))),(V.ifo (V.ifN (headD (tail (tail (Ob.getC (headD z0.2 Ob.dead)))) V.bot)) (V.ifT (headD (tail (tail (Ob.getC (headD z0.2 Ob.dead)))) V.bot)) (V.ifV (headD (tail (tail (Ob.getC (headD z0.2 Ob.dead)))) V.bot)))])]) fun z2=>
 TN (call 22 [(V.ref 0 0)] [(Ob.cells [(V.lst 5 false (getL (headD (Ob.getC (headD z2.2 Ob.dead)) V.bot))),(V.int .i64 (getI (headD (tail (Ob.getC (headD z2.2 Ob.dead))) V.bot))),(V.ifo (V.ifN (headD (tail (tail (Ob.getC (headD z2.2 Ob.dead)))) V.bot)) (V.ifT (headD (tail (tail (Ob.getC (headD z2.2 Ob.dead)))) V.bot)) (V.ifV (headD (tail (tail (Ob.getC (headD z2.2 Ob.dead)))) V.bot)))])]) fun z3=>
 TN (call 22 [(V.ref 0 0)] [(Ob.cells [(V.lst 5 false (getL (headD (Ob.getC (headD z3.2 Ob.dead)) V.bot))),(V.int .i64 (getI (headD (tail (Ob.getC (headD z3.2 Ob.dead))) V.bot))),(V.ifo (V.ifN (headD (tail (tail (Ob.getC (headD z3.2 Ob.dead)))) V.bot)) (V.ifT (headD (tail (tail (Ob.getC (headD z3.2 Ob.dead)))) V.bot)) (V.ifV (headD (tail (tail (Ob.getC (headD z3.2 Ob.dead)))) V.bot)))])]) fun z4=>
 if(!(V.ifN (headD (tail (tail (Ob.getC (headD z4.2 Ob.dead)))) V.bot)))=true then
 some ((V.agg [(V.int .i64 (getI z0.1)),(V.int .i64 a5),(V.int .i64 (TK .i64 (a5+(getI z3.1)))),(V.int .i64 (TK .i64 (a5+(getI z3.1)))),(V.int .i64 (TK .i64 ((TK .i64 (a5+(getI z3.1)))+(getI z4.1)))),(V.lst 31 false []),(V.lst 27 false []),(V.int .i64 0),(V.int .i64 0)]),[(Ob.cells [(V.lst 5 false (getL (headD (Ob.getC (headD z4.2 Ob.dead)) V.bot))),(V.int .i64 (getI (headD (tail (Ob.getC (headD z4.2 Ob.dead))) V.bot))),(V.ifo (V.ifN (headD (tail (tail (Ob.getC (headD z4.2 Ob.dead)))) V.bot)) (V.ifT (headD (tail (tail (Ob.getC (headD z4.2 Ob.dead)))) V.bot)) (V.ifV (headD (tail (tail (Ob.getC (headD z4.2 Ob.dead)))) V.bot)))])])
 else
 if((getI z0.1)==(2:Int))=true then
 TN (call 25 [(V.ref 0 0),(V.int .i64 (TK .i64 (a5+(getI z3.1)))),(V.int .i64 (TK .i64 (a6+(1:Int))))] [(Ob.cells [(V.lst 5 false (getL (headD (Ob.getC (headD z4.2 Ob.dead)) V.bot))),(V.int .i64 (getI (headD (tail (Ob.getC (headD z4.2 Ob.dead))) V.bot))),(V.ifo (V.ifN (headD (tail (tail (Ob.getC (headD z4.2 Ob.dead)))) V.bot)) (V.ifT (headD (tail (tail (Ob.getC (headD z4.2 Ob.dead)))) V.bot)) (V.ifV (headD (tail (tail (Ob.getC (headD z4.2 Ob.dead)))) V.bot)))])]) fun z5=>
 some ((V.agg [(V.int .i64 (getI z0.1)),(V.int .i64 a5),(V.int .i64 (TK .i64 (a5+(getI z3.1)))),(V.int .i64 (TK .i64 (a5+(getI z3.1)))),(V.int .i64 (TK .i64 ((TK .i64 (a5+(getI z3.1)))+(getI z4.1)))),(V.lst 31 false [(V.agg [(V.int .i64 (getI (headD (V.cells z5.1) V.bot))),(V.int .i64 (getI (headD (tail (V.cells z5.1)) V.bot))),(V.int .i64 (getI (headD (tail (tail (V.cells z5.1))) V.bot))),(V.int .i64 (getI (headD (tail (tail (tail (V.cells z5.1)))) V.bot))),(V.int .i64 (getI (headD (tail (tail (tail (tail (V.cells z5.1))))) V.bot))),(V.lst 31 false (getL (headD (tail (tail (tail (tail (tail (V.cells z5.1)))))) V.bot))),(V.lst 27 false (getL (headD (tail (tail (tail (tail (tail (tail (V.cells z5.1))))))) V.bot))),(V.int .i64 (getI (headD (tail (tail (tail (tail (tail (tail (tail (V.cells z5.1)))))))) V.bot))),(V.int .i64 (getI (headD (tail (tail (tail (tail (tail (tail (tail (tail (V.cells z5.1))))))))) V.bot)))])]),(V.lst 27 false []),(V.int .i64 0),(V.int .i64 0)]),[(Ob.cells [(V.lst 5 false (getL (headD (Ob.getC (headD z5.2 Ob.dead)) V.bot))),(V.int .i64 (getI (headD (tail (Ob.getC (headD z5.2 Ob.dead))) V.bot))),(V.ifo (V.ifN (headD (tail (tail (Ob.getC (headD z5.2 Ob.dead)))) V.bot)) (V.ifT (headD (tail (tail (Ob.getC (headD z5.2 Ob.dead)))) V.bot)) (V.ifV (headD (tail (tail (Ob.getC (headD z5.2 Ob.dead)))) V.bot)))])])
 else
 if((getI z0.1)==(1:Int))=true then
 TN (call 22 [(V.ref 0 0)] [(Ob.cells [(V.lst 5 false (getL (headD (Ob.getC (headD z4.2 Ob.dead)) V.bot))),(V.int .i64 (getI (headD (tail (Ob.getC (headD z4.2 Ob.dead))) V.bot))),(V.ifo (V.ifN (headD (tail (tail (Ob.getC (headD z4.2 Ob.dead)))) V.bot)) (V.ifT (headD (tail (tail (Ob.getC (headD z4.2 Ob.dead)))) V.bot)) (V.ifV (headD (tail (tail (Ob.getC (headD z4.2 Ob.dead)))) V.bot)))])]) fun z5=>
 if(decide ((getI z5.1)>(1000:Int)))=true then
 TN (call 23 [(V.ref 0 0),(V.int .i64 11)] [(Ob.cells [(V.lst 5 false (getL (headD (Ob.getC (headD z5.2 Ob.dead)) V.bot))),(V.int .i64 (getI (headD (tail (Ob.getC (headD z5.2 Ob.dead))) V.bot))),(V.ifo (V.ifN (headD (tail (tail (Ob.getC (headD z5.2 Ob.dead)))) V.bot)) (V.ifT (headD (tail (tail (Ob.getC (headD z5.2 Ob.dead)))) V.bot)) (V.ifV (headD (tail (tail (Ob.getC (headD z5.2 Ob.dead)))) V.bot)))])]) fun z6=>
 (ag0 ((TK .i64 (a5+(getI z3.1)))) (a6) ((getI z5.1)) ((0:Int)) ((getL (headD (Ob.getC (headD z6.2 Ob.dead)) V.bot))) ((getI (headD (tail (Ob.getC (headD z6.2 Ob.dead))) V.bot))) ((V.ifN (headD (tail (tail (Ob.getC (headD z6.2 Ob.dead)))) V.bot))) ((V.ifT (headD (tail (tail (Ob.getC (headD z6.2 Ob.dead)))) V.bot))) ((V.ifV (headD (tail (tail (Ob.getC (headD z6.2 Ob.dead)))) V.bot))) ((0:Int)) ((0:Int)) ((0:Int)) ((0:Int)) ((0:Int)) ([]) ([]) ((0:Int)) ((0:Int)) ((getI z0.1)) (a5) ((TK .i64 (a5+(getI z3.1)))) ((TK .i64 (a5+(getI z3.1)))) ((TK .i64 ((TK .i64 (a5+(getI z3.1)))+(getI z4.1)))) ([]) ([]) ((0:Int)) ((0:Int)))
 else
 (ag0 ((TK .i64 (a5+(getI z3.1)))) (a6) ((getI z5.1)) ((0:Int)) ((getL (headD (Ob.getC (headD z5.2 Ob.dead)) V.bot))) ((getI (headD (tail (Ob.getC (headD z5.2 Ob.dead))) V.bot))) ((V.ifN (headD (tail (tail (Ob.getC (headD z5.2 Ob.dead)))) V.bot))) ((V.ifT (headD (tail (tail (Ob.getC (headD z5.2 Ob.dead)))) V.bot))) ((V.ifV (headD (tail (tail (Ob.getC (headD z5.2 Ob.dead)))) V.bot))) ((0:Int)) ((0:Int)) ((0:Int)) ((0:Int)) ((0:Int)) ([]) ([]) ((0:Int)) ((0:Int)) ((getI z0.1)) (a5) ((TK .i64 (a5+(getI z3.1)))) ((TK .i64 (a5+(getI z3.1)))) ((TK .i64 ((TK .i64 (a5+(getI z3.1)))+(getI z4.1)))) ([]) ([]) ((0:Int)) ((0:Int)))
 else
 some ((V.agg [(V.int .i64 (getI z0.1)),(V.int .i64 a5),(V.int .i64 (TK .i64 (a5+(getI z3.1)))),(V.int .i64 (TK .i64 (a5+(getI z3.1)))),(V.int .i64 (TK .i64 ((TK .i64 (a5+(getI z3.1)))+(getI z4.1)))),(V.lst 31 false []),(V.lst 27 false []),(V.int .i64 0),(V.int .i64 0)]),[(Ob.cells [(V.lst 5 false (getL (headD (Ob.getC (headD z4.2 Ob.dead)) V.bot))),(V.int .i64 (getI (headD (tail (Ob.getC (headD z4.2 Ob.dead))) V.bot))),(V.ifo (V.ifN (headD (tail (tail (Ob.getC (headD z4.2 Ob.dead)))) V.bot)) (V.ifT (headD (tail (tail (Ob.getC (headD z4.2 Ob.dead)))) V.bot)) (V.ifV (headD (tail (tail (Ob.getC (headD z4.2 Ob.dead)))) V.bot)))])])
 else
 TN (call 22 [(V.ref 0 0)] [(Ob.cells [(V.lst 5 false (getL (headD (Ob.getC (headD z0.2 Ob.dead)) V.bot))),(V.int .i64 (getI (headD (tail (Ob.getC (headD z0.2 Ob.dead))) V.bot))),(V.ifo (V.ifN (headD (tail (tail (Ob.getC (headD z0.2 Ob.dead)))) V.bot)) (V.ifT (headD (tail (tail (Ob.getC (headD z0.2 Ob.dead)))) V.bot)) (V.ifV (headD (tail (tail (Ob.getC (headD z0.2 Ob.dead)))) V.bot)))])]) fun z2=>
 TN (call 22 [(V.ref 0 0)] [(Ob.cells [(V.lst 5 false (getL (headD (Ob.getC (headD z2.2 Ob.dead)) V.bot))),(V.int .i64 (getI (headD (tail (Ob.getC (headD z2.2 Ob.dead))) V.bot))),(V.ifo (V.ifN (headD (tail (tail (Ob.getC (headD z2.2 Ob.dead)))) V.bot)) (V.ifT (headD (tail (tail (Ob.getC (headD z2.2 Ob.dead)))) V.bot)) (V.ifV (headD (tail (tail (Ob.getC (headD z2.2 Ob.dead)))) V.bot)))])]) fun z3=>
 if(!(V.ifN (headD (tail (tail (Ob.getC (headD z3.2 Ob.dead)))) V.bot)))=true then
 some ((V.agg [(V.int .i64 (getI z0.1)),(V.int .i64 a5),(V.int .i64 (TK .i64 (a5+(getI z2.1)))),(V.int .i64 (TK .i64 (a5+(getI z2.1)))),(V.int .i64 (TK .i64 ((TK .i64 (a5+(getI z2.1)))+(getI z3.1)))),(V.lst 31 false []),(V.lst 27 false []),(V.int .i64 0),(V.int .i64 0)]),[(Ob.cells [(V.lst 5 false (getL (headD (Ob.getC (headD z3.2 Ob.dead)) V.bot))),(V.int .i64 (getI (headD (tail (Ob.getC (headD z3.2 Ob.dead))) V.bot))),(V.ifo (V.ifN (headD (tail (tail (Ob.getC (headD z3.2 Ob.dead)))) V.bot)) (V.ifT (headD (tail (tail (Ob.getC (headD z3.2 Ob.dead)))) V.bot)) (V.ifV (headD (tail (tail (Ob.getC (headD z3.2 Ob.dead)))) V.bot)))])])
 else
 if((getI z0.1)==(2:Int))=true then
 TN (call 25 [(V.ref 0 0),(V.int .i64 (TK .i64 (a5+(getI z2.1)))),(V.int .i64 (TK .i64 (a6+(1:Int))))] [(Ob.cells [(V.lst 5 false (getL (headD (Ob.getC (headD z3.2 Ob.dead)) V.bot))),(V.int .i64 (getI (headD (tail (Ob.getC (headD z3.2 Ob.dead))) V.bot))),(V.ifo (V.ifN (headD (tail (tail (Ob.getC (headD z3.2 Ob.dead)))) V.bot)) (V.ifT (headD (tail (tail (Ob.getC (headD z3.2 Ob.dead)))) V.bot)) (V.ifV (headD (tail (tail (Ob.getC (headD z3.2 Ob.dead)))) V.bot)))])]) fun z4=>
 some ((V.agg [(V.int .i64 (getI z0.1)),(V.int .i64 a5),(V.int .i64 (TK .i64 (a5+(getI z2.1)))),(V.int .i64 (TK .i64 (a5+(getI z2.1)))),(V.int .i64 (TK .i64 ((TK .i64 (a5+(getI z2.1)))+(getI z3.1)))),(V.lst 31 false [(V.agg [(V.int .i64 (getI (headD (V.cells z4.1) V.bot))),(V.int .i64 (getI (headD (tail (V.cells z4.1)) V.bot))),(V.int .i64 (getI (headD (tail (tail (V.cells z4.1))) V.bot))),(V.int .i64 (getI (headD (tail (tail (tail (V.cells z4.1)))) V.bot))),(V.int .i64 (getI (headD (tail (tail (tail (tail (V.cells z4.1))))) V.bot))),(V.lst 31 false (getL (headD (tail (tail (tail (tail (tail (V.cells z4.1)))))) V.bot))),(V.lst 27 false (getL (headD (tail (tail (tail (tail (tail (tail (V.cells z4.1))))))) V.bot))),(V.int .i64 (getI (headD (tail (tail (tail (tail (tail (tail (tail (V.cells z4.1)))))))) V.bot))),(V.int .i64 (getI (headD (tail (tail (tail (tail (tail (tail (tail (tail (V.cells z4.1))))))))) V.bot)))])]),(V.lst 27 false []),(V.int .i64 0),(V.int .i64 0)]),[(Ob.cells [(V.lst 5 false (getL (headD (Ob.getC (headD z4.2 Ob.dead)) V.bot))),(V.int .i64 (getI (headD (tail (Ob.getC (headD z4.2 Ob.dead))) V.bot))),(V.ifo (V.ifN (headD (tail (tail (Ob.getC (headD z4.2 Ob.dead)))) V.bot)) (V.ifT (headD (tail (tail (Ob.getC (headD z4.2 Ob.dead)))) V.bot)) (V.ifV (headD (tail (tail (Ob.getC (headD z4.2 Ob.dead)))) V.bot)))])])
 else
 if((getI z0.1)==(1:Int))=true then
 TN (call 22 [(V.ref 0 0)] [(Ob.cells [(V.lst 5 false (getL (headD (Ob.getC (headD z3.2 Ob.dead)) V.bot))),(V.int .i64 (getI (headD (tail (Ob.getC (headD z3.2 Ob.dead))) V.bot))),(V.ifo (V.ifN (headD (tail (tail (Ob.getC (headD z3.2 Ob.dead)))) V.bot)) (V.ifT (headD (tail (tail (Ob.getC (headD z3.2 Ob.dead)))) V.bot)) (V.ifV (headD (tail (tail (Ob.getC (headD z3.2 Ob.dead)))) V.bot)))])]) fun z4=>
 if(decide ((getI z4.1)>(1000:Int)))=true then
 TN (call 23 [(V.ref 0 0),(V.int .i64 11)] [(Ob.cells [(V.lst 5 false (getL (headD (Ob.getC (headD z4.2 Ob.dead)) V.bot))),(V.int .i64 (getI (headD (tail (Ob.getC (headD z4.2 Ob.dead))) V.bot))),(V.ifo (V.ifN (headD (tail (tail (Ob.getC (headD z4.2 Ob.dead)))) V.bot)) (V.ifT (headD (tail (tail (Ob.getC (headD z4.2 Ob.dead)))) V.bot)) (V.ifV (headD (tail (tail (Ob.getC (headD z4.2 Ob.dead)))) V.bot)))])]) fun z5=>
 (ag0 ((TK .i64 (a5+(getI z2.1)))) (a6) ((getI z4.1)) ((0:Int)) ((getL (headD (Ob.getC (headD z5.2 Ob.dead)) V.bot))) ((getI (headD (tail (Ob.getC (headD z5.2 Ob.dead))) V.bot))) ((V.ifN (headD (tail (tail (Ob.getC (headD z5.2 Ob.dead)))) V.bot))) ((V.ifT (headD (tail (tail (Ob.getC (headD z5.2 Ob.dead)))) V.bot))) ((V.ifV (headD (tail (tail (Ob.getC (headD z5.2 Ob.dead)))) V.bot))) ((0:Int)) ((0:Int)) ((0:Int)) ((0:Int)) ((0:Int)) ([]) ([]) ((0:Int)) ((0:Int)) ((getI z0.1)) (a5) ((TK .i64 (a5+(getI z2.1)))) ((TK .i64 (a5+(getI z2.1)))) ((TK .i64 ((TK .i64 (a5+(getI z2.1)))+(getI z3.1)))) ([]) ([]) ((0:Int)) ((0:Int)))
 else
 (ag0 ((TK .i64 (a5+(getI z2.1)))) (a6) ((getI z4.1)) ((0:Int)) ((getL (headD (Ob.getC (headD z4.2 Ob.dead)) V.bot))) ((getI (headD (tail (Ob.getC (headD z4.2 Ob.dead))) V.bot))) ((V.ifN (headD (tail (tail (Ob.getC (headD z4.2 Ob.dead)))) V.bot))) ((V.ifT (headD (tail (tail (Ob.getC (headD z4.2 Ob.dead)))) V.bot))) ((V.ifV (headD (tail (tail (Ob.getC (headD z4.2 Ob.dead)))) V.bot))) ((0:Int)) ((0:Int)) ((0:Int)) ((0:Int)) ((0:Int)) ([]) ([]) ((0:Int)) ((0:Int)) ((getI z0.1)) (a5) ((TK .i64 (a5+(getI z2.1)))) ((TK .i64 (a5+(getI z2.1)))) ((TK .i64 ((TK .i64 (a5+(getI z2.1)))+(getI z3.1)))) ([]) ([]) ((0:Int)) ((0:Int)))
 else
 some ((V.agg [(V.int .i64 (getI z0.1)),(V.int .i64 a5),(V.int .i64 (TK .i64 (a5+(getI z2.1)))),(V.int .i64 (TK .i64 (a5+(getI z2.1)))),(V.int .i64 (TK .i64 ((TK .i64 (a5+(getI z2.1)))+(getI z3.1)))),(V.lst 31 false []),(V.lst 27 false []),(V.int .i64 0),(V.int .i64 0)]),[(Ob.cells [(V.lst 5 false (getL (headD (Ob.getC (headD z3.2 Ob.dead)) V.bot))),(V.int .i64 (getI (headD (tail (Ob.getC (headD z3.2 Ob.dead))) V.bot))),(V.ifo (V.ifN (headD (tail (tail (Ob.getC (headD z3.2 Ob.dead)))) V.bot)) (V.ifT (headD (tail (tail (Ob.getC (headD z3.2 Ob.dead)))) V.bot)) (V.ifV (headD (tail (tail (Ob.getC (headD z3.2 Ob.dead)))) V.bot)))])])
def O25 (a0:List V) (a1:Int) (a2:Bool) (a3:Nat) (a4:V):List Ob:=[Ob.cells [V.lst 5 false a0,V.int TM a1,V.ifo a2 a3 a4]]
def A25 (a5:Int) (a6:Int):List V:=[V.ref 0 0,V.int TM a5,V.int TM a6]
def Dm (i0:Int) (i1:Int) (i2:Int) (i3:Int) (l4:List V) (i5:Int) (b6:Bool) (t7:Nat) (v8:V) (i9:Int) (i10:Int) (i11:Int) (i12:Int) (i13:Int) (l14:List V) (l15:List V) (i16:Int) (i17:Int) (i18:Int) (i19:Int) (i20:Int) (i21:Int) (i22:Int) (l23:List V) (l24:List V) (i25:Int) (i26:Int):St:=⟨[(V.ref 0 0),(V.int TM i0),(V.int TM i1),V.bot,V.bot,V.bot,(V.ref 1 0),(V.ref 2 0),(V.int TM i2),(V.int TM i3)]++TZ 101 V.bot,[(Ob.cells [(V.lst 5 false l4),(V.int TM i5),(V.ifo b6 t7 v8)]),(Ob.cells [(V.int TM i9),(V.int TM i10),(V.int TM i11),(V.int TM i12),(V.int TM i13),(V.lst 31 true l14),(V.lst 27 true l15),(V.int TM i16),(V.int TM i17)]),(Ob.cells [(V.int TM i18),(V.int TM i19),(V.int TM i20),(V.int TM i21),(V.int TM i22),(V.lst 31 true l23),(V.lst 27 true l24),(V.int TM i25),(V.int TM i26)])]⟩
theorem Sm (a0:List V) (a1:Int) (a2:Bool) (a3:Nat) (a4:V) (i0:Int) (i1:Int) (i2:Int) (i3:Int) (l4:List V) (i5:Int) (b6:Bool) (t7:Nat) (v8:V) (i9:Int) (i10:Int) (i11:Int) (i12:Int) (i13:Int) (l14:List V) (l15:List V) (i16:Int) (i17:Int) (i18:Int) (i19:Int) (i20:Int) (i21:Int) (i22:Int) (l23:List V) (l24:List V) (i25:Int) (i26:Int):
 RM 25 Tryz.f25 (O25 a0 a1 a2 a3 a4) call icall again (aJ Tryz.f25 0) (Dm i0 i1 i2 i3 l4 i5 b6 t7 v8 i9 i10 i11 i12 i13 l14 l15 i16 i17 i18 i19 i20 i21 i22 l23 l24 i25 i26)=pM call (fun i0 i1 i2 i3 l4 i5 b6 t7 v8 i9 i10 i11 i12 i13 l14 l15 i16 i17 i18 i19 i20 i21 i22 l23 l24 i25 i26=>again (aJ Tryz.f25 0) (Dm i0 i1 i2 i3 l4 i5 b6 t7 v8 i9 i10 i11 i12 i13 l14 l15 i16 i17 i18 i19 i20 i21 i22 l23 l24 i25 i26)) i0 i1 i2 i3 l4 i5 b6 t7 v8 i9 i10 i11 i12 i13 l14 l15 i16 i17 i18 i19 i20 i21 i22 l23 l24 i25 i26:=by kernel_rfl
theorem E25 (a0:List V) (a1:Int) (a2:Bool) (a3:Nat) (a4:V) (a5:Int) (a6:Int):GO 25 Tryz.f25 (A25 a5 a6) (O25 a0 a1 a2 a3 a4) call icall again=T25 call (fun i0 i1 i2 i3 l4 i5 b6 t7 v8 i9 i10 i11 i12 i13 l14 l15 i16 i17 i18 i19 i20 i21 i22 l23 l24 i25 i26=>again (aJ Tryz.f25 0) (Dm i0 i1 i2 i3 l4 i5 b6 t7 v8 i9 i10 i11 i12 i13 l14 l15 i16 i17 i18 i19 i20 i21 i22 l23 l24 i25 i26)) a0 a1 a2 a3 a4 a5 a6:=by kernel_rfl
def L25 (call:FuncId→Fun):Nat→(Int→Int→Int→Int→List V→Int→Bool→Nat→V→Int→Int→Int→Int→Int→List V→List V→Int→Int→Int→Int→Int→Int→Int→List V→List V→Int→Int→Option (V×List Ob))
 |0=>fun _ _ _ _ _ _ _ _ _ _ _ _ _ _ _ _ _ _ _ _ _ _ _ _ _ _ _=>none
 |n+1=>pM call (L25 call n)
theorem R25 (call:FuncId→Fun) (icall:aN (V×List Ob)) (a0:List V) (a1:Int) (a2:Bool) (a3:Nat) (a4:V):∀n,(∀(i0:Int) (i1:Int) (i2:Int) (i3:Int) (l4:List V) (i5:Int) (b6:Bool) (t7:Nat) (v8:V) (i9:Int) (i10:Int) (i11:Int) (i12:Int) (i13:Int) (l14:List V) (l15:List V) (i16:Int) (i17:Int) (i18:Int) (i19:Int) (i20:Int) (i21:Int) (i22:Int) (l23:List V) (l24:List V) (i25:Int) (i26:Int),RN 25 Tryz.f25 (O25 a0 a1 a2 a3 a4) call icall n (aJ Tryz.f25 0) (Dm i0 i1 i2 i3 l4 i5 b6 t7 v8 i9 i10 i11 i12 i13 l14 l15 i16 i17 i18 i19 i20 i21 i22 l23 l24 i25 i26)=(L25 call n) i0 i1 i2 i3 l4 i5 b6 t7 v8 i9 i10 i11 i12 i13 l14 l15 i16 i17 i18 i19 i20 i21 i22 l23 l24 i25 i26)
 |0=>fun i0 i1 i2 i3 l4 i5 b6 t7 v8 i9 i10 i11 i12 i13 l14 l15 i16 i17 i18 i19 i20 i21 i22 l23 l24 i25 i26=>rfl
 |n+1=>by
  have ih:=R25 call icall a0 a1 a2 a3 a4 n
  exact fun i0 i1 i2 i3 l4 i5 b6 t7 v8 i9 i10 i11 i12 i13 l14 l15 i16 i17 i18 i19 i20 i21 i22 l23 l24 i25 i26=>(Sm call icall (RN 25 Tryz.f25 (O25 a0 a1 a2 a3 a4) call icall n) a0 a1 a2 a3 a4 i0 i1 i2 i3 l4 i5 b6 t7 v8 i9 i10 i11 i12 i13 l14 l15 i16 i17 i18 i19 i20 i21 i22 l23 l24 i25 i26).trans (by rw[show(fun i0 i1 i2 i3 l4 i5 b6 t7 v8 i9 i10 i11 i12 i13 l14 l15 i16 i17 i18 i19 i20 i21 i22 l23 l24 i25 i26=>RN 25 Tryz.f25 (O25 a0 a1 a2 a3 a4) call icall n (aJ Tryz.f25 0) (Dm i0 i1 i2 i3 l4 i5 b6 t7 v8 i9 i10 i11 i12 i13 l14 l15 i16 i17 i18 i19 i20 i21 i22 l23 l24 i25 i26))=(L25 call n)from(funext fun i0=>funext fun i1=>funext fun i2=>funext fun i3=>funext fun l4=>funext fun i5=>funext fun b6=>funext fun t7=>funext fun v8=>funext fun i9=>funext fun i10=>funext fun i11=>funext fun i12=>funext fun i13=>funext fun l14=>funext fun l15=>funext fun i16=>funext fun i17=>funext fun i18=>funext fun i19=>funext fun i20=>funext fun i21=>funext fun i22=>funext fun l23=>funext fun l24=>funext fun i25=>funext fun i26=>ih i0 i1 i2 i3 l4 i5 b6 t7 v8 i9 i10 i11 i12 i13 l14 l15 i16 i17 i18 i19 i20 i21 i22 l23 l24 i25 i26)];rfl)
theorem C25 (k:Nat) (a0:List V) (a1:Int) (a2:Bool) (a3:Nat) (a4:V) (a5:Int) (a6:Int):aA cfg (k+1) 25 (A25 a5 a6) (O25 a0 a1 a2 a3 a4)=T25 (aA cfg k) (L25 (aA cfg k) k) a0 a1 a2 a3 a4 a5 a6:=by
 have ih:=R25 (aA cfg k) (aF cfg (aA cfg k) 20) a0 a1 a2 a3 a4 k
 refine(show aA cfg (k+1) 25 (A25 a5 a6) (O25 a0 a1 a2 a3 a4)=GO 25 Tryz.f25 (A25 a5 a6) (O25 a0 a1 a2 a3 a4) (aA cfg k) (aF cfg (aA cfg k) 20) (RN 25 Tryz.f25 (O25 a0 a1 a2 a3 a4) (aA cfg k) (aF cfg (aA cfg k) 20) k)by kernel_rfl).trans ((E25 _ _ _ a0 a1 a2 a3 a4 a5 a6).trans ?_)
 rw[show(fun i0 i1 i2 i3 l4 i5 b6 t7 v8 i9 i10 i11 i12 i13 l14 l15 i16 i17 i18 i19 i20 i21 i22 l23 l24 i25 i26=>RN 25 Tryz.f25 (O25 a0 a1 a2 a3 a4) (aA cfg k) (aF cfg (aA cfg k) 20) k (aJ Tryz.f25 0) (Dm i0 i1 i2 i3 l4 i5 b6 t7 v8 i9 i10 i11 i12 i13 l14 l15 i16 i17 i18 i19 i20 i21 i22 l23 l24 i25 i26))=(L25 (aA cfg k) k)from(funext fun i0=>funext fun i1=>funext fun i2=>funext fun i3=>funext fun l4=>funext fun i5=>funext fun b6=>funext fun t7=>funext fun v8=>funext fun i9=>funext fun i10=>funext fun i11=>funext fun i12=>funext fun i13=>funext fun l14=>funext fun l15=>funext fun i16=>funext fun i17=>funext fun i18=>funext fun i19=>funext fun i20=>funext fun i21=>funext fun i22=>funext fun l23=>funext fun l24=>funext fun i25=>funext fun i26=>ih i0 i1 i2 i3 l4 i5 b6 t7 v8 i9 i10 i11 i12 i13 l14 l15 i16 i17 i18 i19 i20 i21 i22 l23 l24 i25 i26)]
theorem M25 (a0:List V) (a1:Int) (a2:Bool) (a3:Nat) (a4:V) (a5:Int) (a6:Int) {r:V×List Ob} (h:Evt (fun k n=>T25 (aA cfg k) (L25 (aA cfg k) n) a0 a1 a2 a3 a4 a5 a6) r):Ret 25 [V.ref 0 0,V.int TM a5,V.int TM a6] [Ob.cells [V.lst 5 false a0,V.int TM a1,V.ifo a2 a3 a4]] r:=aR (g:=fun k n=>T25 (aA cfg k) (L25 (aA cfg k) n) a0 a1 a2 a3 a4 a5 a6) (fun k=>C25 k a0 a1 a2 a3 a4 a5 a6) h
theorem Mx (i0:Int) (i1:Int) (i2:Int) (i3:Int) (l4:List V) (i5:Int) (b6:Bool) (t7:Nat) (v8:V) (i9:Int) (i10:Int) (i11:Int) (i12:Int) (i13:Int) (l14:List V) (l15:List V) (i16:Int) (i17:Int) (i18:Int) (i19:Int) (i20:Int) (i21:Int) (i22:Int) (l23:List V) (l24:List V) (i25:Int) (i26:Int) {r:V×List Ob} (h:Evt (fun k n=>pM (aA cfg k) (L25 (aA cfg k) n) i0 i1 i2 i3 l4 i5 b6 t7 v8 i9 i10 i11 i12 i13 l14 l15 i16 i17 i18 i19 i20 i21 i22 l23 l24 i25 i26) r):Evt (fun k n=>(L25 (aA cfg k) n) i0 i1 i2 i3 l4 i5 b6 t7 v8 i9 i10 i11 i12 i13 l14 l15 i16 i17 i18 i19 i20 i21 i22 l23 l24 i25 i26) r:=aX (fun k n=>rfl) h
end Go.Proofs.YtgpofjbdjiajeaaGreatDoor
end
section
namespace Go.Proofs.YtgpofjbdjiajeaaGreatDoor
open Go.Ev Go
open List (headD tail)
open V (getI getL)
theorem I9:V.ifT (erV none)=0:=rfl
theorem Ja:V.ifV (erV none)= .bot:=rfl
theorem NP (e:Er):V.ifo e.isNone (V.ifT (erV e)) (V.ifV (erV e))=erV e:=by cases e<;>rfl
theorem By (q:Pt):getI (headD (tail (tail (tail (tail (V.cells (partV q)))))) V.bot)=((q.bd.2:Nat):Int):=by rw[Ic];rfl
theorem GK (c:Nat×Nat):getI (headD (V.cells (cutV c)) V.bot)=((c.1:Nat):Int):=rfl
theorem GL (c:Nat×Nat):getI (headD (tail (V.cells (cutV c))) V.bot)=((c.2:Nat):Int):=rfl
theorem Jb (c:Nat×Nat):V.agg [.int .i64 ((c.1:Nat):Int), .int .i64 ((c.2:Nat):Int)]=cutV c:=rfl
theorem vN (b:Bs) (a:Nat) (p:Nat×Int) (i0 i1 i2 i3 j0 j1 j2 j3 j4:Int) (m0 m1:List V) (j5 j6 k0 k1 k2 k3 k4:Int) (l0 l1:List V) (k5 k6:Int):
  ∃v,Evt (fun k n=>L25 (aA cfg k) n i0 i1 i2 i3 (ofBytes b) ((a:Nat):Int) (UY (some p)) (V.ifT (erV (some p))) (V.ifV (erV (some p))) j0 j1 j2 j3 j4 m0 m1 j5 j6 k0 k1 k2 k3 k4 l0 l1 k5 k6) (v,[rdS b a (some p)]):=by
 obtain⟨v,hs⟩:=Mw b i0 a p
 have ew:(if(decide (i3<i2))=true then some (UY (some p))else some false)=some false:=by cases decide (i3<i2)<;>rfl
 refine⟨?_,Mx i0 i1 i2 i3 (ofBytes b) ((a:Nat):Int) (UY (some p)) (V.ifT (erV (some p))) (V.ifV (erV (some p))) j0 j1 j2 j3 j4 m0 m1 j5 j6 k0 k1 k2 k3 k4 l0 l1 k5 k6 ?_⟩
 rotate_left
 ·simp only[pM,ew,aY,TL,if_false,NP]
  refine aB hs ?_
  simp only[cK,cL,cM,bB]
  exact aD _
theorem GM {c:Bool} {x y:Bool}:∃z:Bool,(if c=false then some x else some y)=some z:=by cases c<;>exact⟨_,rfl⟩
theorem My (b:Bs) (at_ dp:Int):RdE 25 [.int .i64 at_, .int .i64 dp] b:=by
 intro a p
 obtain⟨v,hn⟩:=vM b a p
 obtain⟨y,hy⟩:= @GM (decide (getI v>(2:Int))) (decide (dp>(32:Int))) true
 have hf:=qX b a (some p) 11
 refine⟨?_,M25 (ofBytes b) ((a:Nat):Int) false 110 (.cpt [.int .i64 ((p.1:Nat):Int), .ifc 32 (.int .i64 p.2)]) at_ dp ?_⟩
 rotate_left
 ·simp only[T25]
  refine aB hn ?_
  simp only[hy,aY]
  cases y
  ·simp only[TL,if_false,cK,cL,cM,bB]
   refine aB hn ?_
   simp only[cK,cL,cM,bB]
   refine aB hn ?_
   simp only[cK,cL,cM,kU,bB,UW,UJ,if_true]
   exact aD _
  ·simp only[if_true,cK,cL,cM,bB]
   refine aB hf ?_
   simp only[Wz,cK,cL,cM,bB]
   refine aB hn ?_
   simp only[cK,cL,cM,bB]
   refine aB hn ?_
   simp only[cK,cL,cM,kU,bB,UW,UJ,if_true]
   exact aD _
def qY (d n at_:Nat):Bs→PR ((List (Nat×Nat)×List Pt×Nat)×(Nat×Nat)):=dA (nX (fun a=>trT d a) n at_) fun t=>dA (iF t.2.2) fun e=>sC (t,e)
def Mz (b:Bs) (d:Nat):Prop:=∀(a at_:Nat),a≤b.length→at_+1099511627776* (b.length - a)≤4611686018427387904→
 RdF 25 [.int .i64 ((at_:Nat):Int), .int .i64 ((33 - d:Nat):Int)] b a (trT d at_) partV
theorem Eu (b:Bs) (hb:b.length≤1000000) (d:Nat) (hd:d+1≤33) (ih:Mz b d) (j0 j1 j2 j3 j4:Int) (m0 m1:List V) (j5 j6 k0 k1 k2 k3 k4:Int) (k5 k6:Int) (n:Nat) (hn:n≤1000):
  ∀(m i a at_:Nat) (ks:List Pt) (cs:List (Nat×Nat)),i+m=n→ks.length=i→cs.length=i→a≤b.length→at_+1099511627776* (b.length - a)≤4611686018427387904→
  (∀t e r,qY d m at_ (b.drop a)= .ok ((t,e),r)→∃a',a≤a'∧a'≤b.length∧r=b.drop a'∧
   Evt (fun k q=>L25 (aA cfg k) q (at_:Nat) ((33 - (d+1):Nat):Int) (n:Nat) (i:Nat) (ofBytes b) (a:Nat) true 0 .bot j0 j1 j2 j3 j4 m0 m1 j5 j6 k0 k1 k2 k3 k4 (ks.map partV) (cs.map cutV) k5 k6)
    (.agg [.int .i64 k0, .int .i64 k1, .int .i64 k2, .int .i64 k3, .int .i64 k4, .lst 31 false ((ks++t.2.1).map partV), .lst 27 false ((cs++t.1).map cutV), .int .i64 (e.1:Nat), .int .i64 (e.2:Nat)],[rdS b a' none]))∧
  (∀er,qY d m at_ (b.drop a)= .error er→∃v a' p,p.2=er∧
   Evt (fun k q=>L25 (aA cfg k) q (at_:Nat) ((33 - (d+1):Nat):Int) (n:Nat) (i:Nat) (ofBytes b) (a:Nat) true 0 .bot j0 j1 j2 j3 j4 m0 m1 j5 j6 k0 k1 k2 k3 k4 (ks.map partV) (cs.map cutV) k5 k6) (v,[rdS b a' (some p)]))
 |0,i,a,at_,ks,cs,hi,hk,hc,ha,hat=>by
  obtain⟨s1,s2⟩:=I8 b hb a ha at_ hat
  have start:∀{res:V×List Ob},Evt (fun k q=>pM (aA cfg k) (L25 (aA cfg k) q) (at_:Nat) ((33 - (d+1):Nat):Int) (n:Nat) (i:Nat) (ofBytes b) (a:Nat) true 0 .bot j0 j1 j2 j3 j4 m0 m1 j5 j6 k0 k1 k2 k3 k4 (ks.map partV) (cs.map cutV) k5 k6) res→_:=fun h=>Mx (at_:Nat) ((33 - (d+1):Nat):Int) (n:Nat) (i:Nat) (ofBytes b) (a:Nat) true 0 .bot j0 j1 j2 j3 j4 m0 m1 j5 j6 k0 k1 k2 k3 k4 (ks.map partV) (cs.map cutV) k5 k6 h
  have hlt:¬(((i:Nat):Int)<((n:Nat):Int)):=by omega
  refine⟨fun t e r h=>?_,fun er h=>?_⟩
  ·obtain⟨t',r1,h1,h2⟩:=bJ h
   cases h1
   obtain⟨e',r2,h3,h4⟩:=bJ h2
   cases h4
   obtain⟨a',g1,g2,g3,g4⟩:=s1 e r h3
   refine⟨a',g1,g2,g3,start ?_⟩
   simp only[pM,hlt,decide_false,TL,if_false,aY]
   refine aB g4 ?_
   simp only[cK,cL,cM,bB,GK,GL,UI]
   exact aD _
  ·have h2:iF at_ (b.drop a)= .error er:=by
    cases hq:iF at_ (b.drop a)with
    |error m=>unfold qY at h;rw[nX,aZ (rfl:sC _ _= .ok (_,_)),cA hq]at h;cases h;rfl
    |ok w=>unfold qY at h;rw[nX,aZ (rfl:sC _ _= .ok (_,_)),aZ (v:=w.1) (r:=w.2) hq]at h;cases h
   obtain⟨v,a',p,g1,g2⟩:=s2 er h2
   refine⟨?_,a',p,g1,start ?_⟩
   rotate_left
   ·simp only[pM,hlt,decide_false,TL,if_false,aY]
    refine aB g2 ?_
    simp only[cK,cL,cM,bB]
    exact aD _
 |m+1,i,a,at_,ks,cs,hi,hk,hc,ha,hat=>by
  obtain⟨s1,s2⟩:=I8 b hb a ha at_ hat
  have start:∀{res:V×List Ob},Evt (fun k q=>pM (aA cfg k) (L25 (aA cfg k) q) (at_:Nat) ((33 - (d+1):Nat):Int) (n:Nat) (i:Nat) (ofBytes b) (a:Nat) true 0 .bot j0 j1 j2 j3 j4 m0 m1 j5 j6 k0 k1 k2 k3 k4 (ks.map partV) (cs.map cutV) k5 k6) res→_:=fun h=>Mx (at_:Nat) ((33 - (d+1):Nat):Int) (n:Nat) (i:Nat) (ofBytes b) (a:Nat) true 0 .bot j0 j1 j2 j3 j4 m0 m1 j5 j6 k0 k1 k2 k3 k4 (ks.map partV) (cs.map cutV) k5 k6 h
  have hlt:(((i:Nat):Int)<((n:Nat):Int)):=by omega
  have hw:TK .i64 (((i:Nat):Int)+1)=((i+1:Nat):Int):=by rw[wrap64 (by omega) (by omega)];omega
  have hw2:TK .i64 (((33 - (d+1):Nat):Int)+1)=((33 - d:Nat):Int):=by rw[wrap64 (by omega) (by omega)];omega
  have k1' :∀v:V,cE (cs.map cutV) [v] 17=true:=fun v=>gB (by simp;omega)
  have k2' :∀v:V,cE (ks.map partV) [v] 105=true:=fun v=>gB (by simp;omega)
  have hE:qY d (m+1) at_=dA (iF at_) fun c=>dA (trT d c.2) fun q=>dA (qY d m q.bd.2) fun w=>sC ((c::w.1.1,q::w.1.2.1,w.1.2.2),w.2):=by
   funext s
   unfold qY
   rw[nX]
   unfold dA
   cases iF at_ s with
   |error e=>rfl
   |ok c=>
    simp only
    cases trT d c.1.2 c.2 with
    |error e=>rfl
    |ok q=>
     simp only
     cases nX (fun a=>trT d a) m q.1.bd.2 q.2 with
     |error e=>rfl
     |ok t=>
      simp only[sC]
      cases iF t.1.2.2 t.2 with
      |error e=>rfl
      |ok e=>rfl
  rw[hE]
  refine⟨fun t e r h=>?_,fun er h=>?_⟩
  ·obtain⟨c,r1,h1,h2⟩:=bJ h
   obtain⟨q,r2,h3,h4⟩:=bJ h2
   obtain⟨w,r3,h5,h6⟩:=bJ h4
   cases h6
   obtain⟨a1,g1,g2,g3,g4⟩:=s1 c r1 h1
   have hc1:=rR h1
   subst g3
   rw[Uv,Uv]at hc1
   obtain⟨a2,l1,l2,l3,l4⟩:=(ih a1 c.2 g2 (by omega)).1 q r2 h3
   obtain⟨_,_,hq3,_,_⟩:=vJ _ _ _ _ _ h3
   subst l3
   rw[Uv,Uv]at hq3
   obtain⟨a3,u1,u2,u3,u4⟩:=(Eu b hb d hd ih j0 j1 j2 j3 j4 m0 m1 j5 j6 k0 k1 k2 k3 k4 k5 k6 n hn m (i+1) a2 q.bd.2 (ks++[q]) (cs++[c]) (by omega) (by simp[hk]) (by simp[hc]) l2 (by omega)).1 w.1 w.2 r h5
   refine⟨a3,by omega,u2,u3,start ?_⟩
   simp only[pM,hlt,decide_true,if_true,aY]
   refine aB g4 ?_
   simp only[cK,cL,cM,bB,GK,GL,hw2]
   refine aB l4 ?_
   simp only[cK,cL,cM,kU,U5,I9,Ja,cU]
   simp only[By,Jb,cZ (k1' _),cZ (k2' _),hw]
   rw[V0,V0]at u4
   simp only[Ud,Vt]at u4
   exact u4
  ·cases h1:iF at_ (b.drop a)with
   |error m=>
    rw[cA h1]at h
    cases h
    obtain⟨v,a',p,g1,g2⟩:=s2 er h1
    obtain⟨v2,g3⟩:=My b (getI (headD (tail (V.cells v)) V.bot)) ((33 - d:Nat):Int) a' p
    obtain⟨v3,g4⟩:=vN b a' p (getI (headD (tail (tail (tail (tail (V.cells v2))))) V.bot)) ((33 - (d+1):Nat):Int) ((n:Nat):Int) ((i+1:Nat):Int) j0 j1 j2 j3 j4 m0 m1 j5 j6 k0 k1 k2 k3 k4
     (ks.map partV++[_]) (cs.map cutV++[_]) k5 k6
    refine⟨v3,a',p,g1,start ?_⟩
    simp only[pM,hlt,decide_true,if_true,aY]
    refine aB g2 ?_
    simp only[cK,cL,cM,bB,hw2]
    refine aB g3 ?_
    simp only[cK,cL,cM,kU,cZ (k1' _),cZ (k2' _),hw]
    exact g4
   |ok w1=>
    obtain⟨c,r1⟩:=w1
    rw[aZ h1]at h
    obtain⟨a1,g1,g2,g3,g4⟩:=s1 c r1 h1
    have hc1:=rR h1
    subst g3
    rw[Uv,Uv]at hc1
    obtain⟨t1,t2⟩:=ih a1 c.2 g2 (by omega)
    cases h3:trT d c.2 (b.drop a1)with
    |error m=>
     rw[cA h3]at h
     cases h
     obtain⟨v2,a',p,e1,g5⟩:=t2 er h3
     obtain⟨v3,g6⟩:=vN b a' p (getI (headD (tail (tail (tail (tail (V.cells v2))))) V.bot)) ((33 - (d+1):Nat):Int) ((n:Nat):Int) ((i+1:Nat):Int) j0 j1 j2 j3 j4 m0 m1 j5 j6 k0 k1 k2 k3 k4
      (ks.map partV++[_]) (cs.map cutV++[_]) k5 k6
     refine⟨v3,a',p,e1,start ?_⟩
     simp only[pM,hlt,decide_true,if_true,aY]
     refine aB g4 ?_
     simp only[cK,cL,cM,bB,GK,GL,hw2]
     refine aB g5 ?_
     simp only[cK,cL,cM,kU,cZ (k1' _),cZ (k2' _),hw]
     exact g6
    |ok w2=>
     obtain⟨q,r2⟩:=w2
     rw[aZ h3]at h
     obtain⟨a2,l1,l2,l3,l4⟩:=t1 q r2 h3
     obtain⟨_,_,hq3,_,_⟩:=vJ _ _ _ _ _ h3
     subst l3
     rw[Uv,Uv]at hq3
     cases h5:qY d m q.bd.2 (b.drop a2)with
     |ok w3=>rw[aZ (v:=w3.1) (r:=w3.2) h5]at h;cases h
     |error m' =>
      rw[cA h5]at h
      cases h
      obtain⟨v,a3,p,u3,u4⟩:=(Eu b hb d hd ih j0 j1 j2 j3 j4 m0 m1 j5 j6 k0 k1 k2 k3 k4 k5 k6 n hn m (i+1) a2 q.bd.2 (ks++[q]) (cs++[c]) (by omega) (by simp[hk]) (by simp[hc]) l2 (by omega)).2 er h5
      refine⟨v,a3,p,u3,start ?_⟩
      simp only[pM,hlt,decide_true,if_true,aY]
      refine aB g4 ?_
      simp only[cK,cL,cM,bB,GK,GL,hw2]
      refine aB l4 ?_
      simp only[cK,cL,cM,kU,U5,I9,Ja,cU]
      simp only[By,Jb,cZ (k1' _),cZ (k2' _),hw]
      rw[V0,V0]at u4
      exact u4
theorem NQ {x:Int} {d:Nat} (hx:¬x>2) (hd:d+1≤33):(if(decide (x>(2:Int)))=false then some (decide (((33 - (d+1):Nat):Int)>(32:Int)))else some true)=some false:=by
 rw[decide_eq_false hx,if_pos rfl,decide_eq_false (by omega)]
theorem P3 {x dp:Int} (h:x>2∨dp>32):(if(decide (x>(2:Int)))=false then some (decide (dp>(32:Int)))else some true)=some true:=by
 by_cases hx:x>2
 ·rw[decide_eq_true hx,if_neg (by decide)]
 ·rw[decide_eq_false hx,if_pos rfl,decide_eq_true (by omega)]
theorem rS (b:Bs) (at_ dp:Int) (a a1:Nat) (v0:V) (e0:Er) (p:Nat×Int) (h0:Ret 22 [.ref 0 0] [rdS b a none] (v0,[rdS b a1 e0]))
  (h:e0=some p∨(e0=none∧(getI v0>2∨dp>32)∧p=(a1,11))):∃v,Ret 25 [.ref 0 0, .int .i64 at_, .int .i64 dp] [rdS b a none] (v,[rdS b a1 (some p)]):=by
 obtain⟨v,hn⟩:=vM b a1 p
 obtain⟨y,hy⟩:= @GM (decide (getI v0>(2:Int))) (decide (dp>(32:Int))) true
 have hf:=qX b a1 e0 11
 have he:e0.or (some (a1,11))=some p:=by
  rcases h with rfl|⟨rfl,_,rfl⟩<;>rfl
 rw[he]at hf
 have hy0:y=false→e0=some p:=by
  intro hy0
  rcases h with h|⟨_,h,_⟩
  ·exact h
  ·rw[P3 h]at hy
   cases hy
   cases hy0
 refine⟨?_,M25 (ofBytes b) ((a:Nat):Int) true 0 .bot at_ dp ?_⟩
 rotate_left
 ·simp only[T25]
  refine aB h0 ?_
  simp only[hy,aY]
  cases y
  ·have:=hy0 rfl
   subst this
   simp only[TL,if_false,cK,cL,cM,bB]
   refine aB hn ?_
   simp only[cK,cL,cM,bB]
   refine aB hn ?_
   simp only[cK,cL,cM,kU,bB,UW,UJ,if_true]
   exact aD _
  ·simp only[if_true,cK,cL,cM,bB]
   refine aB hf ?_
   simp only[cK,cL,cM,bB]
   refine aB hn ?_
   simp only[cK,cL,cM,bB]
   refine aB hn ?_
   simp only[cK,cL,cM,kU,bB,UW,UJ,if_true]
   exact aD _
end Go.Proofs.YtgpofjbdjiajeaaGreatDoor
end
section
namespace Go.Proofs.YtgpofjbdjiajeaaGreatDoor
open Go.Ev Go
open List (headD tail)
open V (getI getL)
theorem tX (n:Nat):getI (Kj n)=((n:Nat):Int):=rfl
theorem Jc (b:Bs) (hb:b.length≤1000000):∀d:Nat,d≤33→Mz b d
 |0,_=>by
  intro a at_ ha hat
  obtain⟨n1,n2⟩:=nE b (by omega) a ha
  refine⟨fun v r h=>?_,fun er h=>?_⟩
  ·obtain⟨k,r1,_,h2⟩:=bJ h
   cases h2
  ·cases hp:lU (b.drop a)with
   |error m=>
    rw[trT,cA hp]at h
    cases h
    obtain⟨v0,a1,p,e1,g⟩:=n2 er hp
    obtain⟨v,hv⟩:=rS b ((at_:Nat):Int) ((33 - 0:Nat):Int) a a1 v0 (some p) p g (.inl rfl)
    exact⟨v,a1,p,e1,hv⟩
   |ok w=>
    obtain⟨k,r1⟩:=w
    rw[trT,aZ hp]at h
    cases h
    obtain⟨a1,g1,g2,g3,g4⟩:=n1 k r1 hp
    obtain⟨v,hv⟩:=rS b ((at_:Nat):Int) ((33 - 0:Nat):Int) a a1 _ none (a1,11) g4 (.inr ⟨rfl, .inr (by decide),rfl⟩)
    exact⟨v,a1,(a1,11),rfl,hv⟩
 |d+1,hd=>by
  have ih:=Jc b hb d (by omega)
  intro a at_ ha hat
  obtain⟨n1,n2⟩:=nE b (by omega) a ha
  have start:∀{res:V×List Ob},Evt (fun k n=>T25 (aA cfg k) (L25 (aA cfg k) n) (ofBytes b) ((a:Nat):Int) true 0 .bot ((at_:Nat):Int) ((33 - (d+1):Nat):Int)) res→Ret 25 [.ref 0 0, .int .i64 ((at_:Nat):Int), .int .i64 ((33 - (d+1):Nat):Int)] [rdS b a none] res:=
   fun h=>M25 (ofBytes b) ((a:Nat):Int) true 0 .bot ((at_:Nat):Int) ((33 - (d+1):Nat):Int) h
  unfold RdF
  cases hp:lU (b.drop a)with
  |error m=>
   refine⟨fun v r h=>?_,fun er h=>?_⟩
   ·rw[trT,cA hp]at h;cases h
   ·rw[trT,cA hp]at h
    cases h
    obtain⟨v0,a1,p,e1,g⟩:=n2 m hp
    obtain⟨v,hv⟩:=rS b ((at_:Nat):Int) ((33 - (d+1):Nat):Int) a a1 v0 (some p) p g (.inl rfl)
    exact⟨v,a1,p,e1,hv⟩
  |ok w=>
   obtain⟨k,r1⟩:=w
   obtain⟨a1,g1,g2,g3,g4⟩:=n1 k r1 hp
   have q1:=dY _ _ _ hp
   subst g3
   rw[Uv,Uv]at q1
   rw[trT,aZ hp]
   by_cases hk:2<k
   ·rw[if_pos hk]
    refine⟨fun v r h=>?_,fun er h=>?_⟩
    ·cases h
    ·cases h
     obtain⟨v,hv⟩:=rS b ((at_:Nat):Int) ((33 - (d+1):Nat):Int) a a1 _ none (a1,11) g4 (.inr ⟨rfl, .inl (by rw[tX];omega),rfl⟩)
     exact⟨v,a1,(a1,11),rfl,hv⟩
   rw[if_neg hk]
   have hy:=NQ (x:=getI (Kj k)) (d:=d) (by rw[tX];omega) hd
   obtain⟨m1,m2⟩:=nE b (by omega) a1 g2
   cases hp2:lU (b.drop a1)with
   |error m=>
    refine⟨fun v r h=>?_,fun er h=>?_⟩
    ·rw[cA hp2]at h;cases h
    ·rw[cA hp2]at h
     cases h
     obtain⟨v1,a2,p,e1,g⟩:=m2 m hp2
     obtain⟨v2,hn⟩:=vM b a2 p
     refine⟨?_,a2,p,e1,start ?_⟩
     rotate_left
     ·simp only[T25]
      refine aB g4 ?_
      simp only[hy,aY,TL,if_false,cK,cL,cM,bB]
      refine aB g ?_
      simp only[cK,cL,cM,bB]
      refine aB hn ?_
      simp only[cK,cL,cM,kU,bB,UW,UJ,if_true]
      exact aD _
   |ok w2=>
    obtain⟨x,r2⟩:=w2
    obtain⟨a2,l1,l2,l3,l4⟩:=m1 x r2 hp2
    have q2:=dY _ _ _ hp2
    have hx:=mS hp2
    subst l3
    rw[Uv,Uv]at q2
    rw[aZ hp2]
    obtain⟨o1,o2⟩:=nE b (by omega) a2 l2
    cases hp3:lU (b.drop a2)with
    |error m=>
     refine⟨fun v r h=>?_,fun er h=>?_⟩
     ·rw[cA hp3]at h;cases h
     ·rw[cA hp3]at h
      cases h
      obtain⟨v1,a3,p,e1,g⟩:=o2 m hp3
      refine⟨?_,a3,p,e1,start ?_⟩
      rotate_left
      ·simp only[T25]
       refine aB g4 ?_
       simp only[hy,aY,TL,if_false,cK,cL,cM,bB]
       refine aB l4 ?_
       simp only[cK,cL,cM,bB]
       refine aB g ?_
       simp only[cK,cL,cM,kU,bB,UW,UJ,if_true]
       exact aD _
    |ok w3=>
     obtain⟨y,r3⟩:=w3
     obtain⟨a3,u1,u2,u3,u4⟩:=o1 y r3 hp3
     have q3:=dY _ _ _ hp3
     have hyl:=mS hp3
     subst u3
     rw[Uv,Uv]at q3
     rw[aZ hp3]
     have w1:TK .i64 (((at_:Nat):Int)+((x:Nat):Int))=((at_+x:Nat):Int):=by rw[wrap64 (by omega) (by omega)];omega
     have w2:TK .i64 (((at_+x:Nat):Int)+((y:Nat):Int))=((at_+x+y:Nat):Int):=by rw[wrap64 (by omega) (by omega)];omega
     have wd:TK .i64 (((33 - (d+1):Nat):Int)+1)=((33 - d:Nat):Int):=by rw[wrap64 (by omega) (by omega)];omega
     have front:∀{res:V×List Ob},Evt (fun k' n=>if(((k:Nat):Int)==(2:Int))=true then
        TN (aA cfg k' 25 [.ref 0 0, .int .i64 ((at_+x:Nat):Int), .int .i64 ((33 - d:Nat):Int)] [rdS b a3 none]) fun z=>some (V.agg [.int .i64 ((k:Nat):Int), .int .i64 ((at_:Nat):Int), .int .i64 ((at_+x:Nat):Int), .int .i64 ((at_+x:Nat):Int), .int .i64 ((at_+x+y:Nat):Int), .lst 31 false [V.agg [V.int .i64 (V.getI (UL (V.cells z.1) V.bot)),V.int .i64 (V.getI (UL (Uf (V.cells z.1)) V.bot)),V.int .i64 (V.getI (UL (Uf (Uf (V.cells z.1))) V.bot)),
         V.int .i64 (V.getI (UL (Uf (Uf (Uf (V.cells z.1)))) V.bot)),V.int .i64 (V.getI (UL (Uf (Uf (Uf (Uf (V.cells z.1))))) V.bot)),
         V.lst 31 false (V.getL (UL (Uf (Uf (Uf (Uf (Uf (V.cells z.1)))))) V.bot)),V.lst 27 false (V.getL (UL (Uf (Uf (Uf (Uf (Uf (Uf (V.cells z.1))))))) V.bot)),
         V.int .i64 (V.getI (UL (Uf (Uf (Uf (Uf (Uf (Uf (Uf (V.cells z.1)))))))) V.bot)),V.int .i64 (V.getI (UL (Uf (Uf (Uf (Uf (Uf (Uf (Uf (Uf (V.cells z.1))))))))) V.bot))]], .lst 27 false [], .int .i64 0, .int .i64 0],[.cells [.lst 5 false (getL (headD (Ob.getC (headD z.2 Ob.dead)) V.bot)), .int .i64 (getI (headD (tail (Ob.getC (headD z.2 Ob.dead))) V.bot)), .ifo (V.ifN (headD (tail (tail (Ob.getC (headD z.2 Ob.dead)))) V.bot)) (V.ifT (headD (tail (tail (Ob.getC (headD z.2 Ob.dead)))) V.bot)) (V.ifV (headD (tail (tail (Ob.getC (headD z.2 Ob.dead)))) V.bot))]])
       else if(((k:Nat):Int)==(1:Int))=true then
        TN (aA cfg k' 22 [.ref 0 0] [rdS b a3 none]) fun z=>
        if(decide ((getI z.1)>(1000:Int)))=true then
         TN (aA cfg k' 23 [.ref 0 0, .int .i64 11] [.cells [.lst 5 false (getL (headD (Ob.getC (headD z.2 Ob.dead)) V.bot)), .int .i64 (getI (headD (tail (Ob.getC (headD z.2 Ob.dead))) V.bot)), .ifo (V.ifN (headD (tail (tail (Ob.getC (headD z.2 Ob.dead)))) V.bot)) (V.ifT (headD (tail (tail (Ob.getC (headD z.2 Ob.dead)))) V.bot)) (V.ifV (headD (tail (tail (Ob.getC (headD z.2 Ob.dead)))) V.bot))]]) fun z2=>
         L25 (aA cfg k') n ((at_+x:Nat):Int) ((33 - (d+1):Nat):Int) (getI z.1) 0 (getL (headD (Ob.getC (headD z2.2 Ob.dead)) V.bot)) (getI (headD (tail (Ob.getC (headD z2.2 Ob.dead))) V.bot)) (V.ifN (headD (tail (tail (Ob.getC (headD z2.2 Ob.dead)))) V.bot)) (V.ifT (headD (tail (tail (Ob.getC (headD z2.2 Ob.dead)))) V.bot)) (V.ifV (headD (tail (tail (Ob.getC (headD z2.2 Ob.dead)))) V.bot)) 0 0 0 0 0 [] [] 0 0 ((k:Nat):Int) ((at_:Nat):Int) ((at_+x:Nat):Int) ((at_+x:Nat):Int) ((at_+x+y:Nat):Int) [] [] 0 0
        else L25 (aA cfg k') n ((at_+x:Nat):Int) ((33 - (d+1):Nat):Int) (getI z.1) 0 (getL (headD (Ob.getC (headD z.2 Ob.dead)) V.bot)) (getI (headD (tail (Ob.getC (headD z.2 Ob.dead))) V.bot)) (V.ifN (headD (tail (tail (Ob.getC (headD z.2 Ob.dead)))) V.bot)) (V.ifT (headD (tail (tail (Ob.getC (headD z.2 Ob.dead)))) V.bot)) (V.ifV (headD (tail (tail (Ob.getC (headD z.2 Ob.dead)))) V.bot)) 0 0 0 0 0 [] [] 0 0 ((k:Nat):Int) ((at_:Nat):Int) ((at_+x:Nat):Int) ((at_+x:Nat):Int) ((at_+x+y:Nat):Int) [] [] 0 0
       else some (V.agg [.int .i64 ((k:Nat):Int), .int .i64 ((at_:Nat):Int), .int .i64 ((at_+x:Nat):Int), .int .i64 ((at_+x:Nat):Int), .int .i64 ((at_+x+y:Nat):Int), .lst 31 false [], .lst 27 false [], .int .i64 0, .int .i64 0],[rdS b a3 none])) res→
       Ret 25 [.ref 0 0, .int .i64 ((at_:Nat):Int), .int .i64 ((33 - (d+1):Nat):Int)] [rdS b a none] res:=by
      intro res h
      refine start ?_
      simp only[T25]
      refine aB g4 ?_
      simp only[hy,aY,TL,if_false,cK,cL,cM,bB]
      refine aB l4 ?_
      simp only[cK,cL,cM,bB]
      refine aB u4 ?_
      simp only[tX,cK,cL,cM,kU,bB,U5,UP,TL,if_false,w1,w2,wd]
      exact h
     by_cases hk0:k=0
     ·subst hk0
      rw[if_pos rfl]
      refine⟨fun v r h=>?_,fun er h=>(by cases h)⟩
      cases h
      refine⟨a3,by omega,u2,rfl,front ?_⟩
      have z2:(((0:Nat):Int)==(2:Int))=false:=rfl
      have z1:(((0:Nat):Int)==(1:Int))=false:=rfl
      simp only[z1,z2,TL,if_false,Md]
      exact aD _
     rw[if_neg hk0]
     by_cases hk2:k=2
     ·subst hk2
      rw[if_pos rfl]
      have z2:(((2:Nat):Int)==(2:Int))=true:=rfl
      obtain⟨t1,t2⟩:=ih a3 (at_+x) u2 (by omega)
      refine⟨fun v r h=>?_,fun er h=>?_⟩
      ·obtain⟨q,r4,h4,h5⟩:=bJ h
       cases h5
       obtain⟨a4,c1,c2,c3,c4⟩:=t1 q r h4
       refine⟨a4,by omega,c2,c3,front ?_⟩
       simp only[z2,if_true]
       refine aB c4 ?_
       simp only[cK,cL,cM,bB,cU]
       rw[partV,gV,gV]
       exact aD _
      ·cases h4:trT d (at_+x) (b.drop a3)with
       |ok w=>rw[aZ (v:=w.1) (r:=w.2) h4]at h;cases h
       |error m=>
        rw[cA h4]at h
        cases h
        obtain⟨v1,a4,p,e1,g⟩:=t2 er h4
        refine⟨?_,a4,p,e1,front ?_⟩
        rotate_left
        ·simp only[z2,if_true]
         refine aB g ?_
         simp only[cK,cL,cM,bB]
         exact aD _
     rw[if_neg hk2]
     have hk1:k=1:=by omega
     subst hk1
     have z2:(((1:Nat):Int)==(2:Int))=false:=rfl
     have z1:(((1:Nat):Int)==(1:Int))=true:=rfl
     obtain⟨p1,p2⟩:=nE b (by omega) a3 u2
     cases hp4:lU (b.drop a3)with
     |error m=>
      refine⟨fun v r h=>?_,fun er h=>?_⟩
      ·rw[cA hp4]at h;cases h
      ·rw[cA hp4]at h
       cases h
       obtain⟨v1,a4,p,e1,g⟩:=p2 m hp4
       have hf:=qX b a4 (some p) 11
       obtain⟨v2,hl⟩:=vN b a4 p ((at_+x:Nat):Int) ((33 - (d+1):Nat):Int) (getI v1) 0 0 0 0 0 0 [] [] 0 0 ((1:Nat):Int) ((at_:Nat):Int) ((at_+x:Nat):Int) ((at_+x:Nat):Int) ((at_+x+y:Nat):Int) [] [] 0 0
       refine⟨v2,a4,p,e1,front ?_⟩
       simp only[z1,z2,TL,if_false,if_true]
       refine aB g ?_
       by_cases hg:getI v1>1000
       ·simp only[hg,decide_true,if_true,cK,cL,cM,bB]
        refine aB hf ?_
        simp only[Wz,cK,cL,cM,kU]
        exact hl
       ·simp only[hg,decide_false,TL,if_false,cK,cL,cM,kU]
        exact hl
     |ok w4=>
      obtain⟨n,r4⟩:=w4
      obtain⟨a4,c1,c2,c3,c4⟩:=p1 n r4 hp4
      have q4:=dY _ _ _ hp4
      subst c3
      rw[Uv,Uv]at q4
      rw[aZ hp4]
      by_cases hn:1000<n
      ·rw[if_pos hn]
       refine⟨fun v r h=>?_,fun er h=>?_⟩
       ·cases h
       ·cases h
        have hf:=qX b a4 none 11
        obtain⟨v2,hl⟩:=vN b a4 (a4,11) ((at_+x:Nat):Int) ((33 - (d+1):Nat):Int) ((n:Nat):Int) 0 0 0 0 0 0 [] [] 0 0 ((1:Nat):Int) ((at_:Nat):Int) ((at_+x:Nat):Int) ((at_+x:Nat):Int) ((at_+x+y:Nat):Int) [] [] 0 0
        refine⟨v2,a4,(a4,11),rfl,front ?_⟩
        have hg:((n:Nat):Int)>1000:=by omega
        simp only[z1,z2,TL,if_false,if_true]
        refine aB c4 ?_
        simp only[tX,hg,decide_true,if_true,cK,cL,cM,bB]
        refine aB hf ?_
        simp only[Wz,cK,cL,cM,kU]
        exact hl
      ·rw[if_neg hn]
       have hg:¬((n:Nat):Int)>1000:=by omega
       obtain⟨f1,f2⟩:=Eu b hb d hd ih 0 0 0 0 0 [] [] 0 0 ((1:Nat):Int) ((at_:Nat):Int) ((at_+x:Nat):Int) ((at_+x:Nat):Int) ((at_+x+y:Nat):Int) 0 0 n (by omega) n 0 a4 (at_+x) [] [] (by omega) rfl rfl c2 (by omega)
       have hK:dA (nX (fun a=>trT d a) n (at_+x)) (fun t=>dA (iF t.2.2) fun e=>sC (Pt.mk 1 (at_,at_+x) (at_+x,at_+x+y) t.2.1 t.1 e))=dA (qY d n (at_+x)) fun w=>sC (Pt.mk 1 (at_,at_+x) (at_+x,at_+x+y) w.1.2.1 w.1.1 w.2):=by
        funext s
        unfold qY dA
        cases nX (fun a=>trT d a) n (at_+x) s with
        |error e=>rfl
        |ok t=>
         simp only
         cases iF t.1.2.2 t.2 with
         |error e=>rfl
         |ok e=>rfl
       rw[hK]
       refine⟨fun v r h=>?_,fun er h=>?_⟩
       ·obtain⟨w,r5,h5,h6⟩:=bJ h
        cases h6
        obtain⟨a5,d1,d2,d3,d4⟩:=f1 w.1 w.2 r h5
        refine⟨a5,by omega,d2,d3,front ?_⟩
        simp only[z1,z2,TL,if_false,if_true]
        refine aB c4 ?_
        simp only[tX,hg,decide_false,TL,if_false,cK,cL,cM,kU,U5,I9,Ja]
        rw[partV,fD]
        simp only[UV]at d4
        exact d4
       ·cases h5:qY d n (at_+x) (b.drop a4)with
        |ok w=>rw[aZ (v:=w.1) (r:=w.2) h5]at h;cases h
        |error m=>
         rw[cA h5]at h
         cases h
         obtain⟨v,a5,p,e1,d4⟩:=f2 er h5
         refine⟨v,a5,p,e1,front ?_⟩
         simp only[z1,z2,TL,if_false,if_true]
         refine aB c4 ?_
         simp only[tX,hg,decide_false,TL,if_false,cK,cL,cM,kU,U5,I9,Ja]
         exact d4
end Go.Proofs.YtgpofjbdjiajeaaGreatDoor
end
section
namespace Go.Proofs.YtgpofjbdjiajeaaGreatDoor
open Go.Ev Go
open List (headD tail getD length drop take)
open V (getI getL getT getS getB)
set_option maxRecDepth 100000
variable (call : FuncId → Fun)
abbrev Out:=Option (V×List Ob)
def rdO (l:List V) (at_:Int) (n:Bool) (t:Nat) (v:V):Ob:=Ob.cells [V.lst 5 false l,V.int .i64 at_,V.ifo n t v]
def rdL (z:V×List Ob):List V:=getL (headD (Ob.getC (headD z.2 Ob.dead)) V.bot)
def rdA (z:V×List Ob):Int:=getI (headD (tail (Ob.getC (headD z.2 Ob.dead))) V.bot)
def rdE (z:V×List Ob):V:=headD (tail (tail (Ob.getC (headD z.2 Ob.dead)))) V.bot
def rdK (z:V×List Ob) (K:List V→Int→Bool→Nat→V→Out):Out:=K (rdL z) (rdA z) (V.ifN (rdE z)) (V.ifT (rdE z)) (V.ifV (rdE z))
def bgN (a:List V):Int:=TK TM (((length a:Nat):Int) - (4:Int))
def bgC (a:List V) (K:Out):Out:=chk (decide (0≤bgN a)) (chk (decide (bgN a≤((length a:Nat):Int))) (chk (decide (0≤(0:Int))) (chk (decide ((0:Int)≤bgN a)) K)))
def bgS (a:List V):List V:=drop (TO (0:Int)) (take (TO (bgN a)) a)
def bgT (a:List V) (bad:Int→Out) (ok:List V→Out):Out:=
 if(decide (bgN a<(0:Int)))=true then bad 10 else
  TN (call 24 [V.ref 0 0] [rdO a (bgN a) true 0 V.bot]) fun z0=>
  bgC a (TN (call 19 [V.lst 5 false (bgS a)] []) fun z1=>
  if((getI z0.1) != (getI z1.1))=true then bad 15 else
   if(decide (bgN a<(3:Int)))=false then
    chk (decide (0≤(3:Int))) (chk (decide ((3:Int)≤((length a:Nat):Int))) (chk (decide (0≤(0:Int))) (chk (decide ((0:Int)≤(3:Int)))
     (if(!(sEq (bytesOf (drop (TO (0:Int)) (take (TO (3:Int)) a))) [76,66,1]))=true then bad 11 else bgC a (ok (bgS a))))))
   else bad 11)
def T14 (a:List V):Out:=
 bgT call a (fun _=>some (V.tup [V.int .i64 (0:Int),V.bool false],[])) fun l=>
 TN (call 22 [V.ref 0 0] [rdO l 3 true 0 V.bot]) fun z=>some (V.tup [V.int .i64 (getI z.1),V.bool (V.ifN (rdE z))],[])
def pt9 (c0 c1 c2 c3 c4:Int) (c5 c6:List V) (c7 c8:Int):V:=V.agg [V.int .i64 c0,V.int .i64 c1,V.int .i64 c2,V.int .i64 c3,V.int .i64 c4,V.lst 31 false c5,V.lst 27 false c6,V.int .i64 c7,V.int .i64 c8]
def pt0:V:=pt9 0 0 0 0 0 [] [] 0 0
def ptZ (v:V):V:=pt9 (getI (headD v.cells V.bot)) (getI (headD (tail v.cells) V.bot)) (getI (headD (tail (tail v.cells)) V.bot)) (getI (headD (tail (tail (tail v.cells))) V.bot)) (getI (headD (tail (tail (tail (tail v.cells)))) V.bot)) (getL (headD (tail (tail (tail (tail (tail v.cells))))) V.bot)) (getL (headD (tail (tail (tail (tail (tail (tail v.cells)))))) V.bot)) (getI (headD (tail (tail (tail (tail (tail (tail (tail v.cells))))))) V.bot)) (getI (headD (tail (tail (tail (tail (tail (tail (tail (tail v.cells)))))))) V.bot))
def GN (b:List V) (p:V) (_:List V) (_:Int) (n:Bool) (t:Nat) (v:V):Out:=
 if(!n)=true then TN (call 26 [V.ifo n t v] []) fun z=>some (V.tup [pt0,V.int .i64 (getI z.1)],[])
 else TN (call 16 [p,V.int .i64 ((length b:Nat):Int)] []) fun z=>if((getI z.1) != (0:Int))=true then some (V.tup [pt0,V.int .i64 (getI z.1)],[])else some (V.tup [p,V.int .i64 (0:Int)],[])
def qZ (b:List V) (p:V) (l:List V) (at_:Int) (n:Bool) (t:Nat) (v:V):Out:=
 TN (if n=true then some (decide (at_<((length l:Nat):Int)))else some false) fun y=>
 if y=true then TN (call 23 [V.ref 0 0,V.int .i64 (12:Int)] [rdO l at_ n t v]) fun z=>rdK z (GN call b p)else GN call b p l at_ n t v
def nF (b:List V) (l:List V) (at_:Int) (n:Bool) (t:Nat) (v:V):Out:=
 if n=true then TN (call 25 [V.ref 0 0,V.int .i64 (0:Int),V.int .i64 (0:Int)] [rdO l at_ n t v]) fun z=>rdK z (qZ call b (ptZ z.1))else qZ call b pt0 l at_ n t v
def yT (b:List V) (x:Int) (l:List V) (at_:Int) (n:Bool) (t:Nat) (v:V):Out:=
 if n=true then TN (call 19 [V.lst 5 false b] []) fun z=>
  if(x != (getI z.1))=true then TN (call 23 [V.ref 0 0,V.int .i64 (34:Int)] [rdO l at_ n t v]) fun z=>rdK z (nF call b)else nF call b l at_ n t v
 else nF call b l at_ n t v
def pF (b:List V) (l:List V) (at_:Int) (n:Bool) (t:Nat) (v:V):Out:=
 TN (call 24 [V.ref 0 0] [rdO l at_ n t v]) fun z=>rdK z (yT call b (getI z.1))
def rA (b:List V) (x:Int) (l:List V) (at_:Int) (n:Bool) (t:Nat) (v:V):Out:=
 TN (if n=true then some (x != ((length b:Nat):Int))else some false) fun y=>
 if y=true then TN (call 23 [V.ref 0 0,V.int .i64 (34:Int)] [rdO l at_ n t v]) fun z=>rdK z (pF call b)else pF call b l at_ n t v
def T9 (b a:List V):Out:=
 bgT call a (fun e=>some (V.tup [pt0,V.int .i64 e],[])) fun l=>
 TN (call 22 [V.ref 0 0] [rdO l 3 true 0 V.bot]) fun z=>rdK z (rA call b (getI z.1))
theorem C14 (k:Nat) (a:List V):aA cfg (k+1) 14 [V.lst 5 false a] []=T14 (aA cfg k) a:=by kernel_rfl
theorem M14 (a:List V) {r:V×List Ob} (h:Evt (fun k _=>T14 (aA cfg k) a) r):Ret 14 [V.lst 5 false a] [] r:=aR (g:=fun k _=>T14 (aA cfg k) a) (fun k=>C14 k a) h
theorem C9 (k:Nat) (b a:List V):aA cfg (k+1) 9 [V.lst 5 false b,V.lst 5 false a] []=T9 (aA cfg k) b a:=by kernel_rfl
theorem M9 (b a:List V) {r:V×List Ob} (h:Evt (fun k _=>T9 (aA cfg k) b a) r):Ret 9 [V.lst 5 false b,V.lst 5 false a] [] r:=aR (g:=fun k _=>T9 (aA cfg k) b a) (fun k=>C9 k b a) h
end Go.Proofs.YtgpofjbdjiajeaaGreatDoor
end
section
namespace Go.Proofs.YtgpofjbdjiajeaaGreatDoor
open Go.Ev Go
open List (headD tail getD length drop take)
open V (getI getL getT getS getB)
set_option maxRecDepth 100000
variable (call : FuncId → Fun) (icall : aN (V × List Ob)) (again : List It → St → Option (V × List Ob))
def T43 (call:FuncId→Fun) (a0:Int) (a1:Int) (a2:Int) (a3:Int) (a4:Int) (a5:List V) (a6:List V) (a7:Int) (a8:Int):Option (V×List Ob):=
 some ((V.agg [(V.int .i64 a1),(V.int .i64 a4)]),[])
def A43 (a0:Int) (a1:Int) (a2:Int) (a3:Int) (a4:Int) (a5:List V) (a6:List V) (a7:Int) (a8:Int):List V:=[V.agg [V.int TM a0,V.int TM a1,V.int TM a2,V.int TM a3,V.int TM a4,V.lst 31 false a5,V.lst 27 false a6,V.int TM a7,V.int TM a8]]
theorem E43 (a0:Int) (a1:Int) (a2:Int) (a3:Int) (a4:Int) (a5:List V) (a6:List V) (a7:Int) (a8:Int):GO 43 Tryz.f43 (A43 a0 a1 a2 a3 a4 a5 a6 a7 a8) [] call icall again=T43 call a0 a1 a2 a3 a4 a5 a6 a7 a8:=by kernel_rfl
theorem C43 (k:Nat) (a0:Int) (a1:Int) (a2:Int) (a3:Int) (a4:Int) (a5:List V) (a6:List V) (a7:Int) (a8:Int):aA cfg (k+1) 43 (A43 a0 a1 a2 a3 a4 a5 a6 a7 a8) []=T43 (aA cfg k) a0 a1 a2 a3 a4 a5 a6 a7 a8:=
 (show aA cfg (k+1) 43 (A43 a0 a1 a2 a3 a4 a5 a6 a7 a8) []=GO 43 Tryz.f43 (A43 a0 a1 a2 a3 a4 a5 a6 a7 a8) [] (aA cfg k) (aF cfg (aA cfg k) 20) (RN 43 Tryz.f43 [] (aA cfg k) (aF cfg (aA cfg k) 20) k)by kernel_rfl).trans (E43 _ _ _ a0 a1 a2 a3 a4 a5 a6 a7 a8)
theorem M43 (a0:Int) (a1:Int) (a2:Int) (a3:Int) (a4:Int) (a5:List V) (a6:List V) (a7:Int) (a8:Int) {r:V×List Ob} (h:Evt (fun k n=>T43 (aA cfg k) a0 a1 a2 a3 a4 a5 a6 a7 a8) r):Ret 43 [V.agg [V.int TM a0,V.int TM a1,V.int TM a2,V.int TM a3,V.int TM a4,V.lst 31 false a5,V.lst 27 false a6,V.int TM a7,V.int TM a8]] [] r:=aR (g:=fun k n=>T43 (aA cfg k) a0 a1 a2 a3 a4 a5 a6 a7 a8) (fun k=>C43 k a0 a1 a2 a3 a4 a5 a6 a7 a8) h
def T42 (call:FuncId→Fun) (a0:Int) (a1:Int) (a2:Int) (a3:Int) (a4:Int) (a5:List V) (a6:List V) (a7:Int) (a8:Int):Option (V×List Ob):=
 if(((length a6:Nat):Int)==(0:Int))=true then
 if(a0==(0:Int))=true then
 TN (if((a7==(0:Int))&&((a8==(0:Int))&&true))=true then
 some (((length a5:Nat):Int)==(0:Int))
 else
 some false) fun y0=>
 if y0=true then
 if(a2==a3)=true then
 if(decide (a3≤a4))=true then
 TN (call 67 [(V.lst 31 false a5),(V.clo (Fn.func 68) [] [])] []) fun z1=>
 some ((V.bool (!(getB z1.1))),[])
 else
 some ((V.bool false),[])
 else
 some ((V.bool false),[])
 else
 some ((V.bool false),[])
 else
 if(a0==(1:Int))=true then
 TN (if(decide (((length a5:Nat):Int)>(0:Int)))=true then
 some (((length a5:Nat):Int)==((length a6:Nat):Int))
 else
 some false) fun y0=>
 if y0=true then
 if(a2==a3)=true then
 if(decide (a3≤a4))=true then
 TN (call 67 [(V.lst 31 false a5),(V.clo (Fn.func 68) [] [])] []) fun z1=>
 some ((V.bool (!(getB z1.1))),[])
 else
 some ((V.bool false),[])
 else
 some ((V.bool false),[])
 else
 some ((V.bool false),[])
 else
 if(a0==(2:Int))=true then
 if((a7==(0:Int))&&((a8==(0:Int))&&true))=true then
 if(((length a5:Nat):Int)==(1:Int))=true then
 chk (decide (0≤(0:Int))) (chk (decide ((0:Int)<((length a5:Nat):Int))) (TN (call 43 [(V.agg [(V.int .i64 (getI (headD (V.cells (getD a5 (TO (0:Int)) V.bot)) V.bot))),(V.int .i64 (getI (headD (tail (V.cells (getD a5 (TO (0:Int)) V.bot))) V.bot))),(V.int .i64 (getI (headD (tail (tail (V.cells (getD a5 (TO (0:Int)) V.bot)))) V.bot))),(V.int .i64 (getI (headD (tail (tail (tail (V.cells (getD a5 (TO (0:Int)) V.bot))))) V.bot))),(V.int .i64 (getI (headD (tail (tail (tail (tail (V.cells (getD a5 (TO (0:Int)) V.bot)))))) V.bot))),(V.lst 31 false (getL (headD (tail (tail (tail (tail (tail (V.cells (getD a5 (TO (0:Int)) V.bot))))))) V.bot))),(V.lst 27 false (getL (headD (tail (tail (tail (tail (tail (tail (V.cells (getD a5 (TO (0:Int)) V.bot)))))))) V.bot))),(V.int .i64 (getI (headD (tail (tail (tail (tail (tail (tail (tail (V.cells (getD a5 (TO (0:Int)) V.bot))))))))) V.bot))),(V.int .i64 (getI (headD (tail (tail (tail (tail (tail (tail (tail (tail (V.cells (getD a5 (TO (0:Int)) V.bot)))))))))) V.bot)))])] []) fun z0=>
 if(((getI (headD (V.cells z0.1) V.bot))==a3)&&(((getI (headD (tail (V.cells z0.1)) V.bot))==a4)&&true))=true then
 if(a2==a3)=true then
 if(decide (a3≤a4))=true then
 TN (call 67 [(V.lst 31 false a5),(V.clo (Fn.func 68) [] [])] []) fun z1=>
 some ((V.bool (!(getB z1.1))),[])
 else
 some ((V.bool false),[])
 else
 some ((V.bool false),[])
 else
 some ((V.bool false),[])))
 else
 some ((V.bool false),[])
 else
 some ((V.bool false),[])
 else
 some ((V.bool false),[])
 else
 if(a0==(0:Int))=true then
 TN (some false) fun y0=>
 if y0=true then
 if(a2==a3)=true then
 if(decide (a3≤a4))=true then
 TN (call 67 [(V.lst 31 false a5),(V.clo (Fn.func 68) [] [])] []) fun z1=>
 some ((V.bool (!(getB z1.1))),[])
 else
 some ((V.bool false),[])
 else
 some ((V.bool false),[])
 else
 some ((V.bool false),[])
 else
 if(a0==(1:Int))=true then
 TN (if(decide (((length a5:Nat):Int)>(0:Int)))=true then
 some (((length a5:Nat):Int)==((length a6:Nat):Int))
 else
 some false) fun y0=>
 if y0=true then
 if(a2==a3)=true then
 if(decide (a3≤a4))=true then
 TN (call 67 [(V.lst 31 false a5),(V.clo (Fn.func 68) [] [])] []) fun z1=>
 some ((V.bool (!(getB z1.1))),[])
 else
 some ((V.bool false),[])
 else
 some ((V.bool false),[])
 else
 some ((V.bool false),[])
 else
 if(a0==(2:Int))=true then
 some ((V.bool false),[])
 else
 some ((V.bool false),[])
def A42 (a0:Int) (a1:Int) (a2:Int) (a3:Int) (a4:Int) (a5:List V) (a6:List V) (a7:Int) (a8:Int):List V:=[V.agg [V.int TM a0,V.int TM a1,V.int TM a2,V.int TM a3,V.int TM a4,V.lst 31 false a5,V.lst 27 false a6,V.int TM a7,V.int TM a8]]
theorem E42 (a0:Int) (a1:Int) (a2:Int) (a3:Int) (a4:Int) (a5:List V) (a6:List V) (a7:Int) (a8:Int):GO 42 Tryz.f42 (A42 a0 a1 a2 a3 a4 a5 a6 a7 a8) [] call icall again=T42 call a0 a1 a2 a3 a4 a5 a6 a7 a8:=by kernel_rfl
theorem C42 (k:Nat) (a0:Int) (a1:Int) (a2:Int) (a3:Int) (a4:Int) (a5:List V) (a6:List V) (a7:Int) (a8:Int):aA cfg (k+1) 42 (A42 a0 a1 a2 a3 a4 a5 a6 a7 a8) []=T42 (aA cfg k) a0 a1 a2 a3 a4 a5 a6 a7 a8:=
 (show aA cfg (k+1) 42 (A42 a0 a1 a2 a3 a4 a5 a6 a7 a8) []=GO 42 Tryz.f42 (A42 a0 a1 a2 a3 a4 a5 a6 a7 a8) [] (aA cfg k) (aF cfg (aA cfg k) 20) (RN 42 Tryz.f42 [] (aA cfg k) (aF cfg (aA cfg k) 20) k)by kernel_rfl).trans (E42 _ _ _ a0 a1 a2 a3 a4 a5 a6 a7 a8)
theorem M42 (a0:Int) (a1:Int) (a2:Int) (a3:Int) (a4:Int) (a5:List V) (a6:List V) (a7:Int) (a8:Int) {r:V×List Ob} (h:Evt (fun k n=>T42 (aA cfg k) a0 a1 a2 a3 a4 a5 a6 a7 a8) r):Ret 42 [V.agg [V.int TM a0,V.int TM a1,V.int TM a2,V.int TM a3,V.int TM a4,V.lst 31 false a5,V.lst 27 false a6,V.int TM a7,V.int TM a8]] [] r:=aR (g:=fun k n=>T42 (aA cfg k) a0 a1 a2 a3 a4 a5 a6 a7 a8) (fun k=>C42 k a0 a1 a2 a3 a4 a5 a6 a7 a8) h
def T68 (call:FuncId→Fun) (a0:Int) (a1:Int) (a2:Int) (a3:Int) (a4:Int) (a5:List V) (a6:List V) (a7:Int) (a8:Int):Option (V×List Ob):=
 TN (call 42 [(V.agg [(V.int .i64 a0),(V.int .i64 a1),(V.int .i64 a2),(V.int .i64 a3),(V.int .i64 a4),(V.lst 31 false a5),(V.lst 27 false a6),(V.int .i64 a7),(V.int .i64 a8)])] []) fun z0=>
 some ((V.bool (!(getB z0.1))),[])
def A68 (a0:Int) (a1:Int) (a2:Int) (a3:Int) (a4:Int) (a5:List V) (a6:List V) (a7:Int) (a8:Int):List V:=[V.agg [V.int TM a0,V.int TM a1,V.int TM a2,V.int TM a3,V.int TM a4,V.lst 31 false a5,V.lst 27 false a6,V.int TM a7,V.int TM a8]]
theorem E68 (a0:Int) (a1:Int) (a2:Int) (a3:Int) (a4:Int) (a5:List V) (a6:List V) (a7:Int) (a8:Int):GO 68 Tryz.f68 (A68 a0 a1 a2 a3 a4 a5 a6 a7 a8) [] call icall again=T68 call a0 a1 a2 a3 a4 a5 a6 a7 a8:=by kernel_rfl
theorem C68 (k:Nat) (a0:Int) (a1:Int) (a2:Int) (a3:Int) (a4:Int) (a5:List V) (a6:List V) (a7:Int) (a8:Int):aA cfg (k+1) 68 (A68 a0 a1 a2 a3 a4 a5 a6 a7 a8) []=T68 (aA cfg k) a0 a1 a2 a3 a4 a5 a6 a7 a8:=
 (show aA cfg (k+1) 68 (A68 a0 a1 a2 a3 a4 a5 a6 a7 a8) []=GO 68 Tryz.f68 (A68 a0 a1 a2 a3 a4 a5 a6 a7 a8) [] (aA cfg k) (aF cfg (aA cfg k) 20) (RN 68 Tryz.f68 [] (aA cfg k) (aF cfg (aA cfg k) 20) k)by kernel_rfl).trans (E68 _ _ _ a0 a1 a2 a3 a4 a5 a6 a7 a8)
theorem M68 (a0:Int) (a1:Int) (a2:Int) (a3:Int) (a4:Int) (a5:List V) (a6:List V) (a7:Int) (a8:Int) {r:V×List Ob} (h:Evt (fun k n=>T68 (aA cfg k) a0 a1 a2 a3 a4 a5 a6 a7 a8) r):Ret 68 [V.agg [V.int TM a0,V.int TM a1,V.int TM a2,V.int TM a3,V.int TM a4,V.lst 31 false a5,V.lst 27 false a6,V.int TM a7,V.int TM a8]] [] r:=aR (g:=fun k n=>T68 (aA cfg k) a0 a1 a2 a3 a4 a5 a6 a7 a8) (fun k=>C68 k a0 a1 a2 a3 a4 a5 a6 a7 a8) h
def T67 (call:FuncId→Fun) (a0:List V):Option (V×List Ob):=
 TN (call 96 [(V.lst 31 false a0),(V.clo (Fn.func 68) [] [])] []) fun z0=>
 some ((V.bool (decide ((getI z0.1)≥(0:Int)))),[])
def A67 (a0:List V):List V:=[V.lst 31 false a0,V.clo (Fn.func 68) [] []]
theorem E67 (a0:List V):GO 67 Tryz.f67 (A67 a0) [] call icall again=T67 call a0:=by kernel_rfl
theorem C67 (k:Nat) (a0:List V):aA cfg (k+1) 67 (A67 a0) []=T67 (aA cfg k) a0:=
 (show aA cfg (k+1) 67 (A67 a0) []=GO 67 Tryz.f67 (A67 a0) [] (aA cfg k) (aF cfg (aA cfg k) 20) (RN 67 Tryz.f67 [] (aA cfg k) (aF cfg (aA cfg k) 20) k)by kernel_rfl).trans (E67 _ _ _ a0)
theorem M67 (a0:List V) {r:V×List Ob} (h:Evt (fun k n=>T67 (aA cfg k) a0) r):Ret 67 [V.lst 31 false a0,V.clo (Fn.func 68) [] []] [] r:=aR (g:=fun k n=>T67 (aA cfg k) a0) (fun k=>C67 k a0) h
def Bz (call:FuncId→Fun) (ag0:List V→Int→Int→Option (V×List Ob)) (l0:List V) (i1:Int) (i2:Int):Option (V×List Ob):=
 if(decide (i2<i1))=true then
 chk (decide (0≤i2)) (chk (decide (i2<((length l0:Nat):Int))) (TN (call 68 [(V.agg [(V.int .i64 (getI (headD (V.cells (getD l0 (TO i2) V.bot)) V.bot))),(V.int .i64 (getI (headD (tail (V.cells (getD l0 (TO i2) V.bot))) V.bot))),(V.int .i64 (getI (headD (tail (tail (V.cells (getD l0 (TO i2) V.bot)))) V.bot))),(V.int .i64 (getI (headD (tail (tail (tail (V.cells (getD l0 (TO i2) V.bot))))) V.bot))),(V.int .i64 (getI (headD (tail (tail (tail (tail (V.cells (getD l0 (TO i2) V.bot)))))) V.bot))),(V.lst 31 false (getL (headD (tail (tail (tail (tail (tail (V.cells (getD l0 (TO i2) V.bot))))))) V.bot))),(V.lst 27 false (getL (headD (tail (tail (tail (tail (tail (tail (V.cells (getD l0 (TO i2) V.bot)))))))) V.bot))),(V.int .i64 (getI (headD (tail (tail (tail (tail (tail (tail (tail (V.cells (getD l0 (TO i2) V.bot))))))))) V.bot))),(V.int .i64 (getI (headD (tail (tail (tail (tail (tail (tail (tail (tail (V.cells (getD l0 (TO i2) V.bot)))))))))) V.bot)))])] []) fun z0=>
 if(getB z0.1)=true then
 some ((V.int .i64 i2),[])
 else
 (ag0 (l0) (i1) ((TK .i64 (i2+(1:Int)))))))
 else
 some ((V.int .i64 (-1:Int)),[])
def T96 (call:FuncId→Fun) (ag0:List V→Int→Int→Option (V×List Ob)) (a0:List V):Option (V×List Ob):=
 (ag0 (a0) (((length a0:Nat):Int)) ((0:Int)))
def A96 (a0:List V):List V:=[V.lst 31 false a0,V.clo (Fn.func 68) [] []]
def Dn (l0:List V) (i1:Int) (i2:Int):St:=⟨[(V.lst 31 false l0),(V.clo (Fn.func 68) [] []),V.bot,V.bot,V.bot,V.bot,V.bot,(V.int TM i1),(V.int TM i2)]++TZ 10 V.bot,[]⟩
theorem So (l0:List V) (i1:Int) (i2:Int):
 RM 96 Tryz.f96 [] call icall again (aJ Tryz.f96 0) (Dn l0 i1 i2)=Bz call (fun l0 i1 i2=>again (aJ Tryz.f96 0) (Dn l0 i1 i2)) l0 i1 i2:=by kernel_rfl
theorem E96 (a0:List V):GO 96 Tryz.f96 (A96 a0) [] call icall again=T96 call (fun l0 i1 i2=>again (aJ Tryz.f96 0) (Dn l0 i1 i2)) a0:=by kernel_rfl
def L96 (call:FuncId→Fun):Nat→(List V→Int→Int→Option (V×List Ob))
 |0=>fun _ _ _=>none
 |n+1=>Bz call (L96 call n)
theorem R96 (call:FuncId→Fun) (icall:aN (V×List Ob)):∀n,(∀(l0:List V) (i1:Int) (i2:Int),RN 96 Tryz.f96 [] call icall n (aJ Tryz.f96 0) (Dn l0 i1 i2)=(L96 call n) l0 i1 i2)
 |0=>fun l0 i1 i2=>rfl
 |n+1=>by
  have ih:=R96 call icall n
  exact fun l0 i1 i2=>(So call icall (RN 96 Tryz.f96 [] call icall n) l0 i1 i2).trans (by rw[show(fun l0 i1 i2=>RN 96 Tryz.f96 [] call icall n (aJ Tryz.f96 0) (Dn l0 i1 i2))=(L96 call n)from(funext fun l0=>funext fun i1=>funext fun i2=>ih l0 i1 i2)];rfl)
theorem C96 (k:Nat) (a0:List V):aA cfg (k+1) 96 (A96 a0) []=T96 (aA cfg k) (L96 (aA cfg k) k) a0:=by
 have ih:=R96 (aA cfg k) (aF cfg (aA cfg k) 20) k
 refine(show aA cfg (k+1) 96 (A96 a0) []=GO 96 Tryz.f96 (A96 a0) [] (aA cfg k) (aF cfg (aA cfg k) 20) (RN 96 Tryz.f96 [] (aA cfg k) (aF cfg (aA cfg k) 20) k)by kernel_rfl).trans ((E96 _ _ _ a0).trans ?_)
 rw[show(fun l0 i1 i2=>RN 96 Tryz.f96 [] (aA cfg k) (aF cfg (aA cfg k) 20) k (aJ Tryz.f96 0) (Dn l0 i1 i2))=(L96 (aA cfg k) k)from(funext fun l0=>funext fun i1=>funext fun i2=>ih l0 i1 i2)]
theorem M96 (a0:List V) {r:V×List Ob} (h:Evt (fun k n=>T96 (aA cfg k) (L96 (aA cfg k) n) a0) r):Ret 96 [V.lst 31 false a0,V.clo (Fn.func 68) [] []] [] r:=aR (g:=fun k n=>T96 (aA cfg k) (L96 (aA cfg k) n) a0) (fun k=>C96 k a0) h
theorem Jd (l0:List V) (i1:Int) (i2:Int) {r:V×List Ob} (h:Evt (fun k n=>Bz (aA cfg k) (L96 (aA cfg k) n) l0 i1 i2) r):Evt (fun k n=>(L96 (aA cfg k) n) l0 i1 i2) r:=aX (fun k n=>rfl) h
end Go.Proofs.YtgpofjbdjiajeaaGreatDoor
end
section
namespace Go.Proofs.YtgpofjbdjiajeaaGreatDoor
open Go.Ev Go
theorem Kk {f:FuncId} {args:List V} {objs:List Ob} {r:V×List Ob} {h:(FuncId→Go.Ev.Fun)→Go.Ev.Fun} (hh:cfg.hand f=some h) (e:Evt (fun k _=>h (aA cfg k) args objs) r):Ret f args objs r:=by
 obtain⟨K,e⟩:=e
 refine⟨K+1,fun k hk=>?_⟩
 obtain⟨j,rfl⟩:∃j,k=j+1:=⟨k - 1,by omega⟩
 simp only[aA,hh];exact e j j (by omega) (by omega)
theorem MA (p:Pt):Ret 43 [partV p] [] (.agg [.int .i64 (p.hd.1:Nat), .int .i64 (p.bd.2:Nat)],[]):=by
 rw[←nW p]
 refine M43 (p.kd:Nat) (p.hd.1:Nat) (p.hd.2:Nat) (p.bd.1:Nat) (p.bd.2:Nat) (p.ks.map partV) (p.cs.map cutV) (p.en.1:Nat) (p.en.2:Nat) ?_
 simp only[T43]
 exact aD _
theorem OT (p:Pt) (n:Int) (h:(aV p).length<1099511627776) (hc:cntF p≤1000000) {ft:Bool} (hf:Ret 42 [partV p] [] (.bool ft,[])):
  Ret 16 [partV p, .int .i64 n] [] (.int .i64 (yZ (cntF p:Nat) (dpF p:Nat) ft (p.hd.1:Nat) (p.bd.2:Nat) n (aV p)),[]):=by
 refine Kk (h:=uX) (by kernel_rfl) ?_
 obtain⟨K1,h1⟩:=OL p hc
 obtain⟨K2,h2⟩:=OM p hc
 obtain⟨K3,h3⟩:=hf
 obtain⟨K4,h4⟩:=MA p
 refine⟨K1+K2+K3+K4,fun k _ hk _=>?_⟩
 have e1:=h1 k (by omega)
 have e2:=h2 k (by omega)
 have e3:=h3 k (by omega)
 have e4:=h4 k (by omega)
 simp only[uX,JQ p h,e1,e2,e3,e4]
mutual
theorem OU:∀p:Pt,pL p→cntF p≤1000000→Ret 42 [partV p] [] (.bool true,[])
 | .mk k h b kids cuts e,hf,hc=>by
  rw[pL]at hf
  rw[cntF]at hc
  obtain⟨hk,hb1,hb2,hl⟩:=hf
  have ih:=Sp kids hl (by omega)
  rw[partV,fD]
  refine M42 (k:Nat) (h.1:Nat) (h.2:Nat) (b.1:Nat) (b.2:Nat) (kids.map partV) (cuts.map cutV) (e.1:Nat) (e.2:Nat) ?_
  have g2:(((h.2:Nat):Int)==((b.1:Nat):Int))=true:=by rw[hb1];simp
  have g3:(((b.1:Nat):Int)≤((b.2:Nat):Int)):=by omega
  have go:Evt (fun(k _:Nat)=>TN (aA cfg k 67 [.lst 31 false (kids.map partV), .clo (.func 68) [] []] []) fun z1=>some ((V.bool (!(V.getB z1.1))),([]:List Ob))) (.bool true,[]):=by
   refine aB ih ?_
   exact aD _
  rcases hk with⟨rfl,rfl,rfl,rfl⟩|⟨rfl,h0,h1⟩|⟨rfl,rfl,rfl,q,rfl,hq1,hq2⟩
  ·refine Ie (fun k n=>?_) go
   simp only[T42,g2,g3,decide_true,if_true]
   rfl
  ·have k1:((((kids.map partV).length:Nat):Int)>0):=by rw[Ui];omega
   have k2:((((kids.map partV).length:Nat):Int)==(((cuts.map cutV).length:Nat):Int))=true:=by rw[Ui,Ui,h1];simp
   have k3:((((cuts.map cutV).length:Nat):Int)==0)=false:=by
    have:¬((((cuts.map cutV).length:Nat):Int)=0):=by rw[Ui];omega
    simpa using this
   have k4:((((1:Nat):Int))==0)=false:=rfl
   have k5:((((1:Nat):Int))==1)=true:=rfl
   refine Ie (fun k n=>?_) go
   simp only[T42,g2,g3,k1,k2,k3,k4,k5,decide_true,if_true,TL,if_false,aY]
  ·have r25:=MA q
   have k3:((((0:Nat):Int))==0)=true:=rfl
   have k4:((((2:Nat):Int))==0)=false:=rfl
   have k5:((((2:Nat):Int))==1)=false:=rfl
   have k6:((((2:Nat):Int))==2)=true:=rfl
   have k7:((((1:Nat):Int))==1)=true:=rfl
   have k8:(0:Int)<((1:Nat):Int):=by omega
   have k9:(((q.hd.1:Nat):Int)==((b.1:Nat):Int))=true:=by rw[hq1];simp
   have ka:(((q.bd.2:Nat):Int)==((b.2:Nat):Int))=true:=by rw[hq2];simp
   have hd:([q].map partV).getD 0 .bot=partV q:=rfl
   simp only[T42,g2,g3,k3,k4,k5,k6,k7,decide_true,if_true,TL,if_false,VL,Uh,Ui,Ua,UD,Wq,aI (VJ 0),aI k8,VP,hd,cU]
   refine aB r25 ?_
   have c25:V.cells (.agg [.int .i64 (q.hd.1:Nat), .int .i64 (q.bd.2:Nat)])=[.int .i64 (q.hd.1:Nat), .int .i64 (q.bd.2:Nat)]:=rfl
   simp only[c25,Uc,Um,dF,k9,ka,Wq,if_true]
   exact go
theorem Sp:∀l:List Pt,mR l→dW l≤1000000→Ret 67 [.lst 31 false (l.map partV), .clo (.func 68) [] []] [] (.bool false,[])
 |l,hf,hc=>by
  refine M67 (l.map partV) ?_
  simp only[T67]
  have r67:Ret 96 [.lst 31 false (l.map partV), .clo (.func 68) [] []] [] (.int .i64 (-1),[]):=by
   refine M96 (l.map partV) ?_
   simp only[T96,Ui]
   exact MB l [] hf (by simpa using hc)
  refine aB r67 ?_
  exact aD _
theorem MB:∀(r pre:List Pt),mR r→pre.length+dW r≤1000000→
  Evt (fun k j=>L96 (aA cfg k) j ((pre++r).map partV) ((pre++r).length:Nat) (pre.length:Nat)) (.int .i64 (-1),[])
 |[],pre,hf,h=>by
  refine Jd ((pre++[]).map partV) ((pre++[]).length:Nat) (pre.length:Nat) ?_
  have h1:¬((pre.length:Int)<((pre++[]).length:Nat)):=by simp
  simp only[Bz,h1,decide_false,TL,if_false]
  exact aD _
 |p::r,pre,hf,h=>by
  rw[dW]at h
  rw[mR]at hf
  have hpos:=lS p
  refine Jd ((pre++p::r).map partV) ((pre++p::r).length:Nat) (pre.length:Nat) ?_
  have h1:((pre.length:Int)<((pre++p::r).length:Nat)):=by simp;omega
  have h2:(0:Int)≤(pre.length:Nat):=by omega
  have hw:TK .i64 (((pre.length:Nat):Int)+1)=((pre.length+1:Nat):Int):=by rw[wrap64 (by omega) (by omega)];omega
  have r46:Ret 68 [partV p] [] (.bool false,[]):=by
   have r33:=OU p hf.1 (by omega)
   rw[←nW p]at r33 ⊢
   refine M68 (p.kd:Nat) (p.hd.1:Nat) (p.hd.2:Nat) (p.bd.1:Nat) (p.bd.2:Nat) (p.ks.map partV) (p.cs.map cutV) (p.en.1:Nat) (p.en.2:Nat) ?_
   simp only[T68]
   refine aB r33 ?_
   exact aD _
  simp only[Bz,h1,decide_true,if_true,aI h2,Ui,cR,TW,qW,cU,hw]
  refine aB r46 ?_
  have:=MB r (pre++[p]) hf.2 (by simp;omega)
  simp only[Ud,Vt,Ug,Ua,Uh,UD]at this
  simp only[jI,TL,if_false,Ug,Ua]
  exact this
end
theorem NR (b:Bs) (hb:b.length≤100000):pL (cN b 32 0 b.length false 1).1∧cntF (cN b 32 0 b.length false 1).1≤1000∧(aV (cN b 32 0 b.length false 1).1).length≤5000∧Chn 0 (aV (cN b 32 0 b.length false 1).1) b.length∧
  (cN b 32 0 b.length false 1).1.hd.1=0∧(cN b 32 0 b.length false 1).1.bd.2=b.length∧dpF (cN b 32 0 b.length false 1).1≤32:=by
 have cT:=Bh b 32 0 b.length false 1 (by omega)
 have cT2:=vH b 32 0 b.length false 1
 obtain⟨e1,e2⟩:=I1 b 32 0 b.length false 1
 have ht:=rQ (cN b 32 0 b.length false 1).1
 refine⟨Dg b 32 0 b.length false 1 (by omega) (TY _),by omega,by omega,Gs b 32 0 b.length false 1 (by omega) (TY _),by rw[e1],by rw[e2],I3 b 32 0 b.length false 1 (by omega) (TY _)⟩
theorem Kl (b:Bs) (hb:b.length≤100000) (n:Int):Ret 16 [partV (cN b 32 0 b.length false 1).1, .int .i64 n] [] (.int .i64 (if n=(b.length:Nat)then 0 else 11),[]):=by
 obtain⟨h1,h2,h3,h4,h5,h6,h7⟩:=NR b hb
 have:=OT _ n (by omega) (by omega) (OU _ h1 (by omega))
 rw[h5,h6]at this
 have hch:=h4.chainT
 have he:yZ ((cntF (cN b 32 0 b.length false 1).1:Nat):Int) ((dpF (cN b 32 0 b.length false 1).1:Nat):Int) true ((0:Nat):Int) ((b.length:Nat):Int) n (aV (cN b 32 0 b.length false 1).1)=if n=(b.length:Nat)then 0 else 11:=by
  unfold yZ
  rw[if_neg (by omega),show(((0:Nat):Int))=0 from rfl]at*
  by_cases hn:n=(b.length:Nat)
  ·subst hn
   rw[if_neg (by simp),if_pos rfl,if_pos (by simpa using hch)]
  ·rw[if_pos (.inr (fun h=>hn h.2.symm)),if_neg hn]
 rw[he]at this
 exact this
end Go.Proofs.YtgpofjbdjiajeaaGreatDoor
end
section
namespace Go.Proofs.YtgpofjbdjiajeaaGreatDoor
open Go.Ev Go
open List (headD tail)
open V (getI getL)
def BA:Pt→Bs→PR Pt:=fun p s=>if s=[]then .ok (p,[])else .error 12
def Do:Bs→PR Pt:=dA (trT 33 0) BA
def sumP (b:Bs) (x:Nat):Bs→PR Pt:=if x=(eB b).toNat then Do else Gv 34
def GP (b:Bs):Bs→PR Pt:=dA sT (sumP b)
def BB (b:Bs) (n:Nat):Bs→PR Pt:=if n=b.length then GP b else Gv 34
def BC (b:Bs):Bs→PR Pt:=dA lU (BB b)
def bgF (r:Bs):Except Int Bs:=
 if r.length<4 then .error 10 else if r.drop (r.length - 4)≠le4 (eB (r.take (r.length - 4))).toNat then .error 15
 else if r.length<7∨r.take 3≠[76,66,1]then .error 11 else .ok (r.take (r.length - 4))
def zB (b r:Bs):PR Pt:=match bgF r with| .error e=> .error e| .ok s=>BC b (s.drop 3)
theorem nG (v:V) (s:Bs) (a:Nat) (e:Er) (K:List V→Int→Bool→Nat→V→Out):rdK (v,[rdS s a e]) K=K (ofBytes s) ((a:Nat):Int) e.isNone (V.ifT (erV e)) (V.ifV (erV e)):=by cases e<;>rfl
theorem P4 (s:Bs) (a:Nat) (e:Er):rdO (ofBytes s) ((a:Nat):Int) e.isNone (V.ifT (erV e)) (V.ifV (erV e))=rdS s a e:=by cases e<;>rfl
def BV (b:Bs) (w:PR Pt) (G:Nat→Nat→Out):Prop:=
 match w with
 | .error e=>Evt G (.tup [pt0, .int .i64 e],[])
 | .ok q=>∀c:Int,Ret 16 [partV q.1, .int .i64 ((b.length:Nat):Int)] [] (.int .i64 c,[])→Evt G (.tup [if c=0 then partV q.1 else pt0, .int .i64 c],[])
section
variable (b s : Bs)
theorem Je (q:V) (a:Nat) (p:Nat×Int):Evt (fun k (_:Nat)=>GN (aA cfg k) (ofBytes b) q (ofBytes s) ((a:Nat):Int) (UY (some p)) (V.ifT (erV (some p))) (V.ifV (erV (some p)))) (.tup [pt0, .int .i64 p.2],[]):=by
 have ht:Ret 26 [erV (some p)] [] (.int .i64 p.2,[]):=jX (h:=Ea) (by kernel_rfl) rfl
 simp only[GN,UW,UJ,if_true]
 refine aB (p:=(.int .i64 p.2,[])) ht ?_
 exact aD _
theorem GQ (q:V) (a:Nat) (p:Nat×Int):Evt (fun k (_:Nat)=>qZ (aA cfg k) (ofBytes b) q (ofBytes s) ((a:Nat):Int) (UY (some p)) (V.ifT (erV (some p))) (V.ifV (erV (some p)))) (.tup [pt0, .int .i64 p.2],[]):=by
 have:=Je b s q a p
 simp only[qZ,UW,TL,if_false,aY]
 exact this
theorem Dp (a:Nat) (p:Nat×Int):Evt (fun k (_:Nat)=>nF (aA cfg k) (ofBytes b) (ofBytes s) ((a:Nat):Int) (UY (some p)) (V.ifT (erV (some p))) (V.ifV (erV (some p)))) (.tup [pt0, .int .i64 p.2],[]):=by
 have:=GQ b s pt0 a p
 simp only[nF,UW,TL,if_false]
 exact this
theorem Jf (x:Int) (a:Nat) (p:Nat×Int):Evt (fun k (_:Nat)=>yT (aA cfg k) (ofBytes b) x (ofBytes s) ((a:Nat):Int) (UY (some p)) (V.ifT (erV (some p))) (V.ifV (erV (some p)))) (.tup [pt0, .int .i64 p.2],[]):=by
 have:=Dp b s a p
 simp only[yT,UW,TL,if_false]
 exact this
theorem Dq (a:Nat) (p:Nat×Int):Evt (fun k (_:Nat)=>pF (aA cfg k) (ofBytes b) (ofBytes s) ((a:Nat):Int) (UY (some p)) (V.ifT (erV (some p))) (V.ifV (erV (some p)))) (.tup [pt0, .int .i64 p.2],[]):=by
 obtain⟨v,hv⟩:=Mv s a p
 simp only[pF,P4]
 refine aB hv ?_
 simp only[nG]
 exact Jf b s _ a p
theorem MC (x:Int) (a:Nat) (p:Nat×Int):Evt (fun k (_:Nat)=>rA (aA cfg k) (ofBytes b) x (ofBytes s) ((a:Nat):Int) (UY (some p)) (V.ifT (erV (some p))) (V.ifV (erV (some p)))) (.tup [pt0, .int .i64 p.2],[]):=by
 have:=Dq b s a p
 simp only[rA,UW,TL,if_false,aY]
 exact this
theorem left_ok (hs:s.length≤1000000) (q:Pt) (a:Nat) (ha:a≤s.length):BV b (BA q (s.drop a)) (fun k (_:Nat)=>qZ (aA cfg k) (ofBytes b) (partV q) (ofBytes s) ((a:Nat):Int) (UY (none:Er)) (V.ifT (erV none)) (V.ifV (erV none))):=by
 unfold BA
 by_cases h:s.drop a=[]
 ·rw[if_pos h]
  have hl:a=s.length:=by
   have:=congrArg US h
   rw[Uv,Uh]at this
   omega
  intro c hc
  have h1:¬(((a:Nat):Int)<((s.length:Nat):Int)):=by omega
  simp only[qZ,U5,if_true,aL,h1,decide_false,aY,TL,if_false,GN,UP]
  refine aB hc ?_
  by_cases hz:c=0
  ·subst hz
   have z:((0:Int) != 0)=false:=rfl
   simp only[dF,z,TL,if_false,if_true]
   exact aD _
  ·have z:(c != 0)=true:=by simpa using hz
   simp only[dF,z,if_true,if_neg hz]
   exact aD _
 ·rw[if_neg h]
  have hl:a<s.length:=by
   rcases VM a s.length with h1|h1
   ·exact h1
   ·exact absurd (List.drop_of_length_le h1) h
  have h1:(((a:Nat):Int)<((s.length:Nat):Int)):=by omega
  show Evt _ _
  simp only[qZ,U5,if_true,aL,h1,decide_true,aY]
  refine aB (p:=(.tup [],[rdS s a (some (a,12))])) ?_ ?_
  ·have:=qX s a none 12
   exact this
  ·simp only[nG]
   exact Je b s _ a (a,12)
theorem MD (hs:s.length≤1000000) (a:Nat) (ha:a≤s.length):BV b (Do (s.drop a)) (fun k (_:Nat)=>nF (aA cfg k) (ofBytes b) (ofBytes s) ((a:Nat):Int) (UY (none:Er)) (V.ifT (erV none)) (V.ifV (erV none))):=by
 obtain⟨t1,t2⟩:=Jc s hs 33 (TY _) a 0 ha (by omega)
 unfold Do
 cases h:trT 33 0 (s.drop a)with
 |error e=>
  rw[cA h]
  obtain⟨v,a',p,e1,g⟩:=t2 e h
  show Evt _ _
  simp only[nF,U5,if_true]
  refine aB (p:=(v,[rdS s a' (some p)])) g ?_
  simp only[nG]
  rw[←e1]
  exact GQ b s _ a' p
 |ok w=>
  obtain⟨q,r⟩:=w
  rw[aZ h]
  obtain⟨a',g1,g2,g3,g4⟩:=t1 q r h
  have hl:=left_ok b s hs q a' g2
  rw[←g3]at hl
  have hz:ptZ (partV q)=partV q:=cU q
  unfold BV at hl ⊢
  have step:∀{res:V×List Ob},Evt (fun k (_:Nat)=>qZ (aA cfg k) (ofBytes b) (partV q) (ofBytes s) ((a' :Nat):Int) (UY (none:Er)) (V.ifT (erV none)) (V.ifV (erV none))) res→Evt (fun k (_:Nat)=>nF (aA cfg k) (ofBytes b) (ofBytes s) ((a:Nat):Int) (UY (none:Er)) (V.ifT (erV none)) (V.ifV (erV none))) res:=by
   intro res hr
   simp only[nF,U5,if_true]
   refine aB (p:=(partV q,[rdS s a' none])) g4 ?_
   simp only[nG,hz]
   exact hr
  cases hw:BA q r with
  |error e=>rw[hw]at hl;exact step hl
  |ok w=>rw[hw]at hl;exact fun c hc=>step (hl c hc)
theorem NS (hs:s.length≤1000000) (hb:b.length≤1000000) (x a:Nat) (ha:a≤s.length):BV b (sumP b x (s.drop a)) (fun k (_:Nat)=>yT (aA cfg k) (ofBytes b) ((x:Nat):Int) (ofBytes s) ((a:Nat):Int) (UY (none:Er)) (V.ifT (erV none)) (V.ifV (erV none))):=by
 have hc:=IZ b (by omega)
 unfold sumP
 by_cases h:x=(eB b).toNat
 ·rw[if_pos h]
  have z:((((x:Nat):Int)) != (V.getI (Bl b)))=false:=by rw[h];simp[Bl,V.getI]
  have ht:=MD b s hs a ha
  have step:∀{res:V×List Ob},Evt (fun k (_:Nat)=>nF (aA cfg k) (ofBytes b) (ofBytes s) ((a:Nat):Int) (UY (none:Er)) (V.ifT (erV none)) (V.ifV (erV none))) res→Evt (fun k (_:Nat)=>yT (aA cfg k) (ofBytes b) ((x:Nat):Int) (ofBytes s) ((a:Nat):Int) (UY (none:Er)) (V.ifT (erV none)) (V.ifV (erV none))) res:=by
   intro res hr
   simp only[yT,U5,if_true]
   refine aB hc ?_
   simp only[z,TL,if_false]
   exact hr
  unfold BV at ht ⊢
  cases hw:Do (s.drop a)with
  |error e=>rw[hw]at ht;exact step ht
  |ok w=>rw[hw]at ht;exact fun c hc=>step (ht c hc)
 ·rw[if_neg h]
  have z:((((x:Nat):Int)) != (V.getI (Bl b)))=true:=by
   have:¬(((x:Nat):Int))=(((eB b).toNat:Nat):Int):=by omega
   simpa[Bl,V.getI]using this
  show Evt _ _
  simp only[yT,U5,if_true]
  refine aB hc ?_
  simp only[z,if_true]
  refine aB (p:=(.tup [],[rdS s a (some (a,34))])) (qX s a none 34) ?_
  simp only[nG]
  exact Dp b s a (a,34)
theorem ME (hs:s.length≤1000000) (hb:b.length≤1000000) (a:Nat) (ha:a≤s.length):BV b (GP b (s.drop a)) (fun k (_:Nat)=>pF (aA cfg k) (ofBytes b) (ofBytes s) ((a:Nat):Int) (UY (none:Er)) (V.ifT (erV none)) (V.ifV (erV none))):=by
 obtain⟨t1,t2⟩:=I7 s (by omega) a ha
 unfold GP
 cases h:sT (s.drop a)with
 |error e=>
  rw[cA h]
  obtain⟨v,a',p,e1,g⟩:=t2 e h
  show Evt _ _
  simp only[pF]
  refine aB (p:=(v,[rdS s a' (some p)])) g ?_
  simp only[nG]
  rw[←e1]
  exact Jf b s _ a' p
 |ok w=>
  obtain⟨x,r⟩:=w
  rw[aZ h]
  obtain⟨a',g1,g2,g3,g4⟩:=t1 x r h
  have hl:=NS b s hs hb x a' g2
  rw[←g3]at hl
  have step:∀{res:V×List Ob},Evt (fun k (_:Nat)=>yT (aA cfg k) (ofBytes b) ((x:Nat):Int) (ofBytes s) ((a' :Nat):Int) (UY (none:Er)) (V.ifT (erV none)) (V.ifV (erV none))) res→Evt (fun k (_:Nat)=>pF (aA cfg k) (ofBytes b) (ofBytes s) ((a:Nat):Int) (UY (none:Er)) (V.ifT (erV none)) (V.ifV (erV none))) res:=by
   intro res hr
   simp only[pF]
   refine aB (p:=(Mt x,[rdS s a' none])) g4 ?_
   simp only[nG]
   exact hr
  unfold BV at hl ⊢
  cases hw:sumP b x r with
  |error e=>rw[hw]at hl;exact step hl
  |ok w=>rw[hw]at hl;exact fun c hc=>step (hl c hc)
theorem NT (hs:s.length≤1000000) (hb:b.length≤1000000) (n a:Nat) (ha:a≤s.length):BV b (BB b n (s.drop a)) (fun k (_:Nat)=>rA (aA cfg k) (ofBytes b) ((n:Nat):Int) (ofBytes s) ((a:Nat):Int) (UY (none:Er)) (V.ifT (erV none)) (V.ifV (erV none))):=by
 unfold BB
 by_cases h:n=b.length
 ·rw[if_pos h]
  have z:((((n:Nat):Int)) != ((b.length:Nat):Int))=false:=by rw[h];simp
  have ht:=ME b s hs hb a ha
  have step:∀{res:V×List Ob},Evt (fun k (_:Nat)=>pF (aA cfg k) (ofBytes b) (ofBytes s) ((a:Nat):Int) (UY (none:Er)) (V.ifT (erV none)) (V.ifV (erV none))) res→Evt (fun k (_:Nat)=>rA (aA cfg k) (ofBytes b) ((n:Nat):Int) (ofBytes s) ((a:Nat):Int) (UY (none:Er)) (V.ifT (erV none)) (V.ifV (erV none))) res:=by
   intro res hr
   simp only[rA,U5,if_true,aL,z,aY,TL,if_false]
   exact hr
  unfold BV at ht ⊢
  cases hw:GP b (s.drop a)with
  |error e=>rw[hw]at ht;exact step ht
  |ok w=>rw[hw]at ht;exact fun c hc=>step (ht c hc)
 ·rw[if_neg h]
  have z:((((n:Nat):Int)) != ((b.length:Nat):Int))=true:=by
   have:¬(((n:Nat):Int))=((b.length:Nat):Int):=by omega
   simpa using this
  show Evt _ _
  simp only[rA,U5,if_true,aL,z,aY]
  refine aB (p:=(.tup [],[rdS s a (some (a,34))])) (qX s a none 34) ?_
  simp only[nG]
  exact Dq b s a (a,34)
end
theorem MF (r:Bs) (hr:r.length≤1000000) (bad:Int→Out) (ok:Nat→List V→Out) (res:V×List Ob)
  (h:match bgF r with| .error e=>bad e=some res| .ok s=>3≤s.length∧s.length≤1000000∧Evt (fun k (_:Nat)=>ok k (ofBytes s)) res):
  Evt (fun k (_:Nat)=>bgT (aA cfg k) (ofBytes r) bad (ok k)) res:=by
 unfold bgF at h
 by_cases h4:r.length<4
 ·rw[if_pos h4]at h
  have w:TK .i64 (((r.length:Nat):Int) - 4)=((r.length:Nat):Int) - 4:=wrap64 (by omega) (by omega)
  have h1:(((r.length:Nat):Int) - 4<0):=by omega
  simp only[bgT,bgN,aL,w,h1,decide_true,if_true,h]
  exact aD _
 rw[if_neg h4]at h
 have w:TK .i64 (((r.length:Nat):Int) - 4)=((r.length - 4:Nat):Int):=by rw[wrap64 (by omega) (by omega)];omega
 have hn:bgN (ofBytes r)=((r.length - 4:Nat):Int):=by unfold bgN;rw[aL,w]
 have h1:¬(((r.length - 4:Nat):Int)<0):=by omega
 have h2:(0:Int)≤((r.length - 4:Nat):Int):=by omega
 have h3:((r.length - 4:Nat):Int)≤((r.length:Nat):Int):=by omega
 have hS:bgS (ofBytes r)=ofBytes (r.take (r.length - 4)):=by
  unfold bgS
  rw[hn,TW]
  show Wb 0 _=_
  rw[U7]
  simp[ofBytes,Wm]
 have hC:∀K:Out,bgC (ofBytes r) K=K:=fun K=>by
  unfold bgC
  rw[hn,aL,aI h2,aI h3,aI (VJ 0),aI h2]
 have hl:(r.drop (r.length - 4)).length=4:=by rw[Uv];omega
 obtain⟨c0,c1,c2,c3,hd⟩:∃c0 c1 c2 c3,r.drop (r.length - 4)=[c0,c1,c2,c3]:=by
  match hd:r.drop (r.length - 4),hl with
  |[c0,c1,c2,c3],_=>exact⟨c0,c1,c2,c3,rfl⟩
 have hf:sT (r.drop (r.length - 4))= .ok (leN [c0,c1,c2,c3],[]):=by rw[hd];rfl
 obtain⟨a',g1,g2,g3,g4⟩:=(I7 r (by omega) (r.length - 4) (by omega)).1 _ _ hf
 have hcr:=IZ (r.take (r.length - 4)) (by simp;omega)
 have e0:rdO (ofBytes r) ((r.length - 4:Nat):Int) true 0 V.bot=rdS r (r.length - 4) none:=rfl
 have hx:leN [c0,c1,c2,c3]=(eB (r.take (r.length - 4))).toNat↔r.drop (r.length - 4)=le4 (eB (r.take (r.length - 4))).toNat:=by
  rw[hd]
  constructor
  ·intro e;rw[←e,IS]
  ·intro e;rw[e,IR (eB _).isLt]
 simp only[bgT,hn,h1,decide_false,TL,if_false,hC,hS,e0]
 refine aB (p:=(Mt (leN [c0,c1,c2,c3]),[rdS r a' none])) g4 ?_
 refine aB hcr ?_
 have gv:getI (Mt (leN [c0,c1,c2,c3]))=((leN [c0,c1,c2,c3]:Nat):Int):=rfl
 have gc:getI (Bl (r.take (r.length - 4)))=(((eB (r.take (r.length - 4))).toNat:Nat):Int):=rfl
 simp only[gv,gc]
 by_cases hsum:r.drop (r.length - 4)=le4 (eB (r.take (r.length - 4))).toNat
 ·rw[if_neg (fun q=>q hsum)]at h
  have z:((((leN [c0,c1,c2,c3]:Nat):Int)) != (((eB (r.take (r.length - 4))).toNat:Nat):Int))=false:=by rw[hx.2 hsum];simp
  simp only[z,TL,if_false]
  by_cases h7:r.length<7
  ·rw[if_pos (.inl h7)]at h
   have h7' :(((r.length - 4:Nat):Int)<3):=by omega
   simp only[h7',decide_true,VY,if_false,h]
   exact aD _
  ·have h7' :¬(((r.length - 4:Nat):Int)<3):=by omega
   have h8:(3:Int)≤((r.length:Nat):Int):=by omega
   have e3:bytesOf (Wb (TO (0:Int)) (Wp (TO (3:Int)) (ofBytes r)))=r.take 3:=by
    show bytesOf (Wb 0 (Wp 3 (ofBytes r)))=_
    rw[U7]
    have:Wp 3 (ofBytes r)=ofBytes (r.take 3):=by simp[ofBytes,Wm]
    rw[this,cD]
   simp only[h7',decide_false,if_true,aL,aI h8,aI (show(0:Int)≤3 by decide),aI (VJ 0),e3]
   by_cases hh:r.take 3=[76,66,1]
   ·rw[if_neg (fun q=>q.elim h7 (fun q=>q hh))]at h
    obtain⟨_,_,h⟩:=h
    have z2:(!(sEq (r.take 3) [76,66,1]))=false:=by rw[hh];rfl
    simp only[z2,TL,if_false]
    exact h
   ·rw[if_pos (.inr hh)]at h
    have z2:(!(sEq (r.take 3) [76,66,1]))=true:=by
     unfold sEq
     simpa using hh
    simp only[z2,if_true,h]
    exact aD _
 ·rw[if_pos hsum]at h
  have z:((((leN [c0,c1,c2,c3]:Nat):Int)) != (((eB (r.take (r.length - 4))).toNat:Nat):Int))=true:=by
   have hne:¬leN [c0,c1,c2,c3]=(eB (r.take (r.length - 4))).toNat:=fun q=>hsum (hx.1 q)
   have:¬(((leN [c0,c1,c2,c3]:Nat):Int))=(((eB (r.take (r.length - 4))).toNat:Nat):Int):=by omega
   simpa using this
  simp only[z,if_true,h]
  exact aD _
theorem NU {r s:Bs} (h:bgF r= .ok s):3≤s.length∧s.length≤r.length:=by
 unfold bgF at h
 split at h
 ·cases h
 ·split at h
  ·cases h
  ·split at h
   ·cases h
   ·rename_i h1 h2 h3
    cases h
    rw[Vo]
    omega
theorem P5 (b r:Bs) (hb:b.length≤1000000) (hr:r.length≤1000000):
  match zB b r with
  | .error e=>Ret 9 [.lst 5 false (ofBytes b), .lst 5 false (ofBytes r)] [] (.tup [pt0, .int .i64 e],[])
  | .ok q=>∀c:Int,Ret 16 [partV q.1, .int .i64 ((b.length:Nat):Int)] [] (.int .i64 c,[])→Ret 9 [.lst 5 false (ofBytes b), .lst 5 false (ofBytes r)] [] (.tup [if c=0 then partV q.1 else pt0, .int .i64 c],[]):=by
 unfold zB
 cases hg:bgF r with
 |error e=>
  refine M9 (ofBytes b) (ofBytes r) ?_
  unfold T9
  refine MF r hr _ (fun k l=>TN (aA cfg k 22 [V.ref 0 0] [rdO l 3 true 0 V.bot]) fun z=>rdK z (rA (aA cfg k) (ofBytes b) (getI z.1))) _ ?_
  rw[hg]
 |ok s=>
  obtain⟨hs3,hsr⟩:=NU hg
  have start:∀{res:V×List Ob},Evt (fun k (_:Nat)=>TN (aA cfg k 22 [V.ref 0 0] [rdS s 3 none]) fun z=>rdK z (rA (aA cfg k) (ofBytes b) (getI z.1))) res→Ret 9 [.lst 5 false (ofBytes b), .lst 5 false (ofBytes r)] [] res:=by
   intro res h
   refine M9 (ofBytes b) (ofBytes r) ?_
   unfold T9
   refine MF r hr _ (fun k l=>TN (aA cfg k 22 [V.ref 0 0] [rdO l 3 true 0 V.bot]) fun z=>rdK z (rA (aA cfg k) (ofBytes b) (getI z.1))) _ ?_
   rw[hg]
   exact⟨hs3,by omega,h⟩
  obtain⟨t1,t2⟩:=nE s (by omega) 3 hs3
  show match BC b (s.drop 3)with| .error e=>_| .ok q=>_
  unfold BC
  cases hq:lU (s.drop 3)with
  |error e=>
   rw[cA hq]
   obtain⟨v,a',p,e1,g⟩:=t2 e hq
   refine start ?_
   refine aB (p:=(v,[rdS s a' (some p)])) g ?_
   simp only[nG]
   rw[←e1]
   exact MC b s _ a' p
  |ok w=>
   obtain⟨n,r1⟩:=w
   rw[aZ hq]
   obtain⟨a',g1,g2,g3,g4⟩:=t1 n r1 hq
   have hl:=NT b s (by omega) hb n a' g2
   rw[←g3]at hl
   have step:∀{res:V×List Ob},Evt (fun k (_:Nat)=>rA (aA cfg k) (ofBytes b) ((n:Nat):Int) (ofBytes s) ((a' :Nat):Int) (UY (none:Er)) (V.ifT (erV none)) (V.ifV (erV none))) res→Ret 9 [.lst 5 false (ofBytes b), .lst 5 false (ofBytes r)] [] res:=by
    intro res h
    refine start ?_
    refine aB (p:=(Kj n,[rdS s a' none])) g4 ?_
    simp only[nG,tX]
    exact h
   unfold BV at hl
   cases hw:BB b n r1 with
   |error e=>rw[hw]at hl;exact step hl
   |ok w=>rw[hw]at hl;exact fun c hc=>step (hl c hc)
end Go.Proofs.YtgpofjbdjiajeaaGreatDoor
end
section
namespace Go.Proofs.YtgpofjbdjiajeaaGreatDoor
open Go.Ev Go
theorem Chn.parts {z:Nat} {m:List (Nat×Nat×Nat)}:∀{l:List (Nat×Nat×Nat)} {a:Nat},Chn a (l++m) z→∃y,Chn a l y∧Chn y m z
 |[],a,h=>⟨a,rfl,h⟩
 |t::l,a,h=>by
  rw[UA,Chn]at h
  obtain⟨h1,h2,h3,h4⟩:=h
  obtain⟨y,h5,h6⟩:=Chn.parts h4
  exact⟨y,by rw[Chn];exact⟨h1,h2,h3,h5⟩,h6⟩
mutual
theorem Ih:∀(p:Pt) (a z:Nat),pL p→Chn a (aV p) z→WL a p∧p.bd.2=z
 | .mk k h b kids cuts e,a,z,hf,hc=>by
  rw[pL]at hf
  rw[aV,Chn]at hc
  obtain⟨hk,f1,f2,f3⟩:=hf
  obtain⟨_,c1,c2,c3⟩:=hc
  simp only at c1 c2 c3
  rw[WL]
  rcases hk with⟨rfl,rfl,rfl,rfl⟩|⟨rfl,k1,k2⟩|⟨rfl,rfl,rfl,q,rfl,k3,k4⟩
  ·rw[if_neg (by decide),if_neg (by decide),Chn,Chn]at c3
   refine⟨⟨c1,by omega,f1,f2, .inl ⟨rfl,rfl,rfl,rfl⟩⟩,?_⟩
   exact c3.2.2.2
  ·rw[if_pos rfl,Chn]at c3
   obtain⟨_,d1,d2,d3⟩:=c3
   simp only at d1 d2 d3
   have hm:0<min cuts.length kids.length:=by omega
   rw[if_pos hm]at d2 d3
   obtain⟨y,e1,e2⟩:=Chn.parts d3
   rw[Chn,Chn,Chn]at e2
   obtain⟨_,g1,g2,_,g3,g4,g5⟩:=e2
   simp only at g1 g2 g3 g4 g5
   cases cuts with
   |nil=>rw[Uh]at k2;omega
   |cons c cr=>
    have e1' :Chn c.1 (fX (c::cr) (bR kids)) y:=e1
    have d2' :b.1≤c.1:=by
     have q:h.2≤c.1:=d2
     omega
    have:=MG kids (c::cr) c.1 y k2 f3 e1'
    refine⟨⟨c1,by omega,f1,f2, .inr (.inr ⟨rfl,y,?_,by omega,by omega⟩)⟩,g5⟩
    cases kids with
    |nil=>simp at k1
    |cons q ks=>
     rw[WLs]at this ⊢
     obtain⟨c',r',hcr,w1,w2,w3,w4⟩:=this
     cases hcr
     exact⟨c,cr,rfl,d2',w2,w3,w4⟩
  ·rw[if_neg (by decide),if_pos rfl]at c3
   have e3:(bR [q]).headD []=aV q:=by rw[bR];rfl
   rw[e3]at c3
   rw[mR]at f3
   obtain⟨w1,w2⟩:=Ih q h.2 z f3.1 c3
   refine⟨⟨c1,by omega,f1,f2, .inr (.inl ⟨rfl,rfl,rfl,?_⟩)⟩,?_⟩
   ·rw[WL1,←f1];exact w1
   ·show b.2=z;omega
theorem MG:∀(ks:List Pt) (cs:List (Nat×Nat)) (a z:Nat),ks.length=cs.length→mR ks→Chn a (fX cs (bR ks)) z→WLs a cs ks z
 |[],cs,a,z,hl,_,hc=>by
  have:cs=[]:=Ue (by simpa using hl.symm)
  subst this
  rw[WLs]
  exact⟨rfl,hc⟩
 |q::ks,[],a,z,hl,_,_=>by simp at hl
 |q::ks,c::cr,a,z,hl,hf,hc=>by
  rw[mR]at hf
  rw[bR,fX,UA,Chn]at hc
  obtain⟨_,c1,c2,c3⟩:=hc
  simp only at c1 c2 c3
  obtain⟨y,d1,d2⟩:=Chn.parts c3
  obtain⟨w1,w2⟩:=Ih q c.2 y hf.1 d1
  rw[WLs]
  refine⟨c,cr,rfl,by omega,by omega,w1,?_⟩
  rw[w2]
  exact MG ks cr y z (by simpa using hl) hf.2 d2
end
mutual
theorem MH {m M:Nat} (h:m<M):∀{p:Pt},fV m p→cntF p≤1001→SmL M p
 | .mk k hh b kids cuts e,hp,hc=>by
  rw[fV]at hp
  rw[cntF]at hc
  obtain⟨g1,g2,g3,g4,g5,g6,g7,g8,g9⟩:=hp
  have:=Bj kids
  rw[SmL]
  exact⟨by omega,by omega,fun c hc=>by have:=(g5 c hc).2;omega,by omega,by omega,Jg h g9 (by omega)⟩
theorem Jg {m M:Nat} (h:m<M):∀{l:List Pt},dX m l→dW l≤1001→Gx M l
 |[],_,_=>by rw[Gx];trivial
 |p::l,hp,hc=>by
  rw[dX]at hp
  rw[dW]at hc
  rw[Gx]
  exact⟨MH h hp.1 (by omega),Jg h hp.2 (by omega)⟩
end
def cF (b:Bs):Pt:=(cN b 32 0 b.length false 1).1
theorem kC (b:Bs) (hb:b.length≤100000):WL 0 (cF b)∧(cF b).bd.2=b.length∧SmL 1099511627776 (cF b)∧dpF (cF b)<33∧cntF (cF b)≤1000∧fV 100000 (cF b):=by
 have h1:=Dg b 32 0 b.length false 1 (by omega) (TY _)
 have h2:=Gs b 32 0 b.length false 1 (by omega) (TY _)
 have cT:=Bh b 32 0 b.length false 1 (by omega)
 have cT2:=vH b 32 0 b.length false 1
 have hd:=I3 b 32 0 b.length false 1 (by omega) (TY _)
 have hp:=Bo 100000 b hb 32 0 b.length false 1 (by omega) hb
 obtain⟨w1,w2⟩:=Ih _ _ _ h1 h2
 have e:cF b=(cN b 32 0 b.length false 1).1:=rfl
 rw[e]
 exact⟨w1,w2,MH (by omega) hp (by omega),by omega,by omega,hp⟩
end Go.Proofs.YtgpofjbdjiajeaaGreatDoor
end
section
namespace Go.Proofs.YtgpofjbdjiajeaaGreatDoor
open Go.Ev Go
open List (headD tail)
open V (getI getL)
theorem rT {x y:Nat} (h:y≤x) (hx:x≤2305843009213693952):TK .i64 (((x:Nat):Int) - ((y:Nat):Int))=((x - y:Nat):Int):=by
 rw[wrap64 (by omega) (by omega)];omega
theorem Km (pcs:List (Nat×Nat)) (c:Nat×Nat) (cr:List (Nat×Nat)):((pcs++c::cr).map cutV).getD pcs.length .bot=cutV c:=by
 simp[Ul]
mutual
theorem Ew:∀(p:Pt) (a:Nat) (s:Bs),WL a p→fV 2305843009213693952 p→s.length+100*cntF p≤800000000→
  Ret 20 [.lst 5 true (ofBytes s),partV p] [] (.lst 5 true (ofBytes (s++kT p)),[])
 | .mk k h b kids cuts e,a,s,hw,hp,hs=>by
  rw[WL]at hw
  rw[fV]at hp
  rw[cntF]at hs
  obtain⟨w1,w2,w3,w4,hk⟩:=hw
  obtain⟨p1,p2,p3,p4,p5,p6,p7,p8,p9⟩:=hp
  have hkb:k≤2:=by rcases hk with h|h|h<;>omega
  have n1:=(dG k).2
  have n2:=(dG (h.2 - h.1)).2
  have n3:=(dG (b.2 - b.1)).2
  have r1:=vK k s (by omega) (by omega)
  have r2:=vK (h.2 - h.1) (s++dO k) (by omega) (by simp only[Ug];omega)
  have r3:=vK (b.2 - b.1) (s++dO k++dO (h.2 - h.1)) (by omega) (by simp only[Ug];omega)
  rw[partV,fD]
  refine M20 (ofBytes s) (k:Nat) (h.1:Nat) (h.2:Nat) (b.1:Nat) (b.2:Nat) (kids.map partV) (cuts.map cutV) (e.1:Nat) (e.2:Nat) ?_
  simp only[T20,rT w2 p2,rT w4 p4]
  refine aB r1 ?_
  simp only[bM]
  refine aB r2 ?_
  simp only[bM]
  refine aB r3 ?_
  simp only[bM]
  rw[kT]
  rcases hk with⟨rfl,rfl,rfl,rfl⟩|⟨rfl,rfl,rfl,hk⟩|⟨rfl,z,hk,hz1,hz2⟩
  ·have z2:(((0:Nat):Int)==(2:Int))=false:=rfl
   have z1:(((0:Nat):Int)==(1:Int))=false:=rfl
   simp only[z1,z2,TL,if_false]
   rw[if_neg (by decide),if_neg (by decide)]
   simp only[UI,Ud]
   exact aD _
  ·match kids,hk,p9,hs with
   |[q],hk,p9,hs=>
    rw[WL1]at hk
    rw[dX]at p9
    rw[dW,dW]at hs
    have z2:(((2:Nat):Int)==(2:Int))=true:=rfl
    have hq:=Ew q b.1 (s++dO 2++dO (h.2 - h.1)++dO (b.2 - b.1)) hk p9.1 (by simp only[Ug];omega)
    have hd:Ul ([q].map partV) (TO (0:Int)) .bot=partV q:=rfl
    have hl:(0:Int)<((([q].map partV).length:Nat):Int):=by rw[Ui,List.length_singleton];decide
    simp only[z2,if_true,aI (VJ 0),aI hl,hd,cU]
    refine aB hq ?_
    have e3:(((kJ [q]).head?).getD ([],0)).1=kT q:=by rw[kJ];rfl
    simp only[bM,e3,Ud]
    exact aD _
  ·have hcl:=zF kids cuts b.1 z hk
   have z2:(((1:Nat):Int)==(2:Int))=false:=rfl
   have z1:(((1:Nat):Int)==(1:Int))=true:=rfl
   have n4:=(dG kids.length).2
   have hkl:=Bj kids
   have r4:=vK kids.length (s++dO 1++dO (h.2 - h.1)++dO (b.2 - b.1)) (by omega) (by simp only[Ug];omega)
   have hloop:=GR kids cuts b.1 z (s++dO 1++dO (h.2 - h.1)++dO (b.2 - b.1)++dO kids.length) [] [] 1 h.1 h.2 b.1 b.2 e.1 e.2 hk hz1 hz2 p8 p3 rfl p9 (fun c hc=>(p5 c hc).2) (by simp only[Ug];omega) (by simp only[Uh];omega)
   simp only[z1,z2,TL,if_false,if_true,Ui]
   refine aB r4 ?_
   rw[if_neg (by decide),hcl.1]
   simp only[UV,Uh,Ud,Int.natCast_zero]at hloop
   simp only[bM,if_true,Ud]
   exact hloop
theorem GR:∀(ks:List Pt) (cs:List (Nat×Nat)) (a z:Nat) (s:Bs) (pre:List Pt) (pcs:List (Nat×Nat)) (k h1 h2 b1 b2 e1 e2:Nat),
  WLs a cs ks z→z≤e1→e1≤e2→e2≤2305843009213693952→a≤2305843009213693952→pre.length=pcs.length→dX 2305843009213693952 ks→(∀c∈cs,c.2≤2305843009213693952)→s.length+100*dW ks+22≤800000000→pre.length+dW ks≤100000000→
  Evt (fun m j=>L20 (aA cfg m) j (ofBytes s) (a:Nat) ((pre++ks).map partV) ((pre++ks).length:Nat) (pre.length:Nat) (k:Nat) (h1:Nat) (h2:Nat) (b1:Nat) (b2:Nat) ((pre++ks).map partV) ((pcs++cs).map cutV) (e1:Nat) (e2:Nat))
   (.lst 5 true (ofBytes (s++(pR a cs (kJ ks)).1++dO (e1 - z)++dO (e2 - e1))),[])
 |[],cs,a,z,s,pre,pcs,k,h1,h2,b1,b2,e1,e2,hw,hz1,hz2,hz3,ha,hl,_,hc,hs,hb=>by
  rw[WLs]at hw
  obtain⟨rfl,rfl⟩:=hw
  have n1:=(dG (e1 - a)).2
  have r1:=vK (e1 - a) s (by omega) (by omega)
  have r2:=vK (e2 - e1) (s++dO (e1 - a)) (by omega) (by simp only[Ug];omega)
  refine OQ (ofBytes s) (a:Nat) ((pre++[]).map partV) ((pre++[]).length:Nat) (pre.length:Nat) (k:Nat) (h1:Nat) (h2:Nat) (b1:Nat) (b2:Nat) ((pre++[]).map partV) ((pcs++[]).map cutV) (e1:Nat) (e2:Nat) ?_
  have hlt:¬(((pre.length:Nat):Int)<(((pre++[]).length:Nat):Int)):=by simp
  simp only[GB,hlt,decide_false,TL,if_false,rT hz1 (by omega),rT hz2 hz3]
  refine aB r1 ?_
  simp only[bM]
  refine aB r2 ?_
  simp only[bM,kJ,pR,UI]
  exact aD _
 |q::ks,cs,a,z,s,pre,pcs,k,h1,h2,b1,b2,e1,e2,hw,hz1,hz2,hz3,ha,hl,hp,hc,hs,hb=>by
  rw[WLs]at hw
  obtain⟨c,cr,rfl,w1,w2,w3,w4⟩:=hw
  rw[dX]at hp
  rw[dW]at hs hb
  have hpos:=lS q
  have c2:=hc c (by simp)
  have hq2:q.bd.2≤2305843009213693952:=by
   cases q with
   |mk k h b kids cuts e=>rw[fV]at hp;exact hp.1.2.2.2.1
  have n1:=(dG (c.1 - a)).2
  have n2:=(dG (c.2 - c.1)).2
  have hpl:=vL q c.2 w3
  have r1:=vK (c.1 - a) s (by omega) (by omega)
  have r2:=vK (c.2 - c.1) (s++dO (c.1 - a)) (by omega) (by simp only[Ug];omega)
  have r3:=Ew q c.2 (s++dO (c.1 - a)++dO (c.2 - c.1)) w3 hp.1 (by simp only[Ug];omega)
  have next:=GR ks cr q.bd.2 z (s++dO (c.1 - a)++dO (c.2 - c.1)++kT q) (pre++[q]) (pcs++[c]) k h1 h2 b1 b2 e1 e2 w4 hz1 hz2 hz3 hq2 (by simp[hl]) hp.2 (fun x hx=>hc x (by simp[hx])) (by simp only[Ug];omega) (by simp only[Ug,Ua,Uh];omega)
  refine OQ (ofBytes s) (a:Nat) ((pre++q::ks).map partV) ((pre++q::ks).length:Nat) (pre.length:Nat) (k:Nat) (h1:Nat) (h2:Nat) (b1:Nat) (b2:Nat) ((pre++q::ks).map partV) ((pcs++c::cr).map cutV) (e1:Nat) (e2:Nat) ?_
  have hlt:(((pre.length:Nat):Int)<(((pre++q::ks).length:Nat):Int)):=by simp;omega
  have hlt2:(((pre.length:Nat):Int)<(((pcs++c::cr).length:Nat):Int)):=by rw[hl];simp;omega
  have h0:(0:Int)≤((pre.length:Nat):Int):=by omega
  have hw:TK .i64 (((pre.length:Nat):Int)+1)=((pre.length+1:Nat):Int):=by rw[wrap64 (by omega) (by omega)];omega
  have hg:Ul ((pcs++c::cr).map cutV) pre.length .bot=cutV c:=by rw[hl];exact Km pcs c cr
  simp only[GB,hlt,decide_true,if_true,aI h0,Ui,cR,hlt2,TW,hg,qW,GK,GL,rT w1 (by omega),rT w2 c2,cU]
  refine aB r1 ?_
  simp only[bM]
  refine aB r2 ?_
  simp only[bM]
  refine aB r3 ?_
  simp only[bM,By,hw]
  simp only[Ud,Vt,Ug,Ua,Uh,UD]at next
  rw[kJ,pR]
  simp only[Ud,Ug,Ua]
  exact next
end
def cX (b:Bs) (p:Pt):Bs:=[76,66,1]++(dO b.length++(le4 (eB b).toNat++kT p))
def BW (b:Bs) (p:Pt):Bs:=fJ (cX b p)
theorem rU (b:Bs) (p:Pt) (hw:WL 0 p):(cX b p).length≤100*cntF p∧8≤(cX b p).length:=by
 have h1:=dG b.length
 have h2:=vL p 0 hw
 have h3:(le4 (eB b).toNat).length=4:=rfl
 unfold cX
 simp only[Ug,Ua,Uh]
 omega
theorem Sq (b:Bs) (p:Pt) (hb:b.length≤1000000) (hw:WL 0 p) (hp:fV 2305843009213693952 p) (hc:cntF p≤1000000) (c:Int) (hk:Ret 16 [partV p, .int .i64 ((b.length:Nat):Int)] [] (.int .i64 c,[])):
  Ret 8 [.lst 5 false (ofBytes b),partV p] [] (if c=0 then .tup [.lst 5 false (ofBytes (BW b p)), .int .i64 0]else .tup [.lst 5 false [], .int .i64 c],[]):=by
 have hfl:=rU b p hw
 have hn:=(dG b.length).2
 rw[←nW p]at hk ⊢
 refine M8 (ofBytes b) (p.kd:Nat) (p.hd.1:Nat) (p.hd.2:Nat) (p.bd.1:Nat) (p.bd.2:Nat) (p.ks.map partV) (p.cs.map cutV) (p.en.1:Nat) (p.en.2:Nat) ?_
 simp only[T8,aL]
 refine aB hk ?_
 by_cases h0:c=0
 ·subst h0
  have z:((0:Int) != 0)=false:=rfl
  have hd:[V.int .u8 76,V.int .u8 66,V.int .u8 1]=ofBytes [76,66,1]:=rfl
  have r1:=vK b.length [76,66,1] (by omega) (by simp)
  have r2:=IZ b (by omega)
  have r3:=OR (eB b) ([76,66,1]++dO b.length) (by simp only[Ug,Ua,Uh];omega)
  have hl4:(le4 (eB b).toNat).length=4:=rfl
  have r4:=Ew p 0 ([76,66,1]++dO b.length++le4 (eB b).toNat) hw hp (by simp only[Ug,Ua,Uh];omega)
  have ef:[76,66,1]++dO b.length++le4 (eB b).toNat++kT p=cX b p:=by unfold cX;simp only[Ud]
  rw[ef]at r4
  have r5:=IZ (cX b p) (by omega)
  have r6:=OR (eB (cX b p)) (cX b p) (by omega)
  have ev:∀s:Bs,getI (Bl s)=(((eB s).toNat:Nat):Int):=fun _=>rfl
  simp only[dF,z,TL,if_false,hd,if_true]
  refine aB r1 ?_
  refine aB r2 ?_
  simp only[bM,ev]
  refine aB r3 ?_
  simp only[bM,nW]
  refine aB r4 ?_
  simp only[bM]
  refine aB r5 ?_
  simp only[ev]
  refine aB r6 ?_
  simp only[bM]
  exact aD _
 ·have z:(c != 0)=true:=by simpa using h0
  simp only[dF,z,if_true,if_neg h0]
  exact aD _
end Go.Proofs.YtgpofjbdjiajeaaGreatDoor
end
section
namespace Go.Proofs.YtgpofjbdjiajeaaGreatDoor
open Go.Ev Go
theorem nY (s:Bs):(fJ s).length=s.length+4:=by simp[fJ,le4]
theorem xR (s:Bs):(fJ s).take ((fJ s).length - 4)=s:=by
 rw[nY,Nat.add_sub_cancel,fJ];simp
theorem Kn (s:Bs):(fJ s).drop ((fJ s).length - 4)=le4 (eB s).toNat:=by
 rw[nY,Nat.add_sub_cancel,fJ];simp
theorem GT (s:Bs) (h3:3≤s.length) (hh:s.take 3=[76,66,1]):bgF (fJ s)= .ok s:=by
 have hl:=nY s
 unfold bgF
 rw[if_neg (by omega),xR,Kn,if_neg (fun q=>q rfl)]
 have e:(fJ s).take 3=s.take 3:=by rw[fJ,List.take_append_of_le_length h3]
 rw[if_neg (fun q=>q.elim (by omega) (fun q=>q (by rw[e,hh])))]
theorem NV {r s:Bs} (h:bgF r= .ok s):r=fJ s∧s.take 3=[76,66,1]∧3≤s.length:=by
 unfold bgF at h
 split at h
 ·cases h
 ·rename_i h1
  split at h
  ·cases h
  ·rename_i h2
   split at h
   ·cases h
   ·rename_i h3
    cases h
    have h2' :r.drop (r.length - 4)=le4 (eB (r.take (r.length - 4))).toNat:=by
     rcases Decidable.em (r.drop (r.length - 4)=le4 (eB (r.take (r.length - 4))).toNat)with q|q
     ·exact q
     ·exact absurd q h2
    have h3' :r.take 3=[76,66,1]:=by
     rcases Decidable.em (r.take 3=[76,66,1])with q|q
     ·exact q
     ·exact absurd (.inr q) h3
    have h7:¬r.length<7:=fun q=>h3 (.inl q)
    refine⟨?_,?_,by rw[Vo];omega⟩
    ·rw[fJ,←h2',U9]
    ·rw[List.take_take,Nat.min_eq_left (by omega),h3']
theorem BD (b:Bs) (p:Pt):(cX b p).drop 3=dO b.length++(le4 (eB b).toNat++kT p):=by
 unfold cX;rfl
theorem BE (b:Bs) (p:Pt):(cX b p).take 3=[76,66,1]:=by
 unfold cX;rfl
theorem MI (p:Pt) (hw:WL 0 p) (hs:SmL 1099511627776 p) (hd:dpF p<33):Do (kT p)= .ok (p,[]):=by
 have:=get_put p 33 0 [] hw hs hd
 rw[UI]at this
 unfold Do
 rw[aZ this]
 unfold BA
 rw[if_pos rfl]
theorem vO (b o:Bs) (hb:b.length<1099511627776) (p:Pt) (hw:WL 0 p) (hs:SmL 1099511627776 p) (hd:dpF p<33):
  zB o (BW b p)=if b.length=o.length∧(eB b).toNat=(eB o).toNat then .ok (p,[])else .error 34:=by
 have hl:=rU b p hw
 unfold zB BW
 rw[GT _ (by omega) (BE b p)]
 show BC o ((cX b p).drop 3)=_
 rw[BD]
 unfold BC
 rw[aZ (kB hb _)]
 unfold BB
 by_cases h1:b.length=o.length
 ·rw[if_pos h1]
  unfold GP
  rw[aZ (Kh (eB b).isLt _)]
  unfold sumP
  by_cases h2:(eB b).toNat=(eB o).toNat
  ·rw[if_pos h2,if_pos ⟨h1,h2⟩]
   exact MI p hw hs hd
  ·rw[if_neg h2,if_neg (fun q=>h2 q.2)]
   rfl
 ·rw[if_neg h1,if_neg (fun q=>h1 q.1)]
  rfl
theorem NW {b s:Bs} {q:Pt} {r:Bs} (h:zB b (fJ s)= .ok (q,r)):fJ s=BW b q∧r=[]∧WL 0 q∧cntF q≤s.length∧fV (1099511627776*s.length) q:=by
 unfold zB at h
 cases hg:bgF (fJ s)with
 |error e=>rw[hg]at h;cases h
 |ok s' =>
  rw[hg]at h
  obtain⟨h1,h2,h3⟩:=NV hg
  have hss:s' =s:=by
   have e1:=xR s
   have e2:=xR s'
   rw[h1]at e1
   rw[←e1,e2]
  subst hss
  have h:BC b (s'.drop 3)= .ok (q,r):=h
  obtain⟨n,r1,g1,g2⟩:=bJ h
  unfold BB at g2
  by_cases hn:n=b.length
  ·rw[if_pos hn]at g2
   obtain⟨x,r2,g3,g4⟩:=bJ g2
   unfold sumP at g4
   by_cases hx:x=(eB b).toNat
   ·rw[if_pos hx]at g4
    obtain⟨q',r3,g5,g6⟩:=bJ g4
    unfold BA at g6
    by_cases hr:r3=[]
    ·rw[if_pos hr]at g6
     cases g6
     subst hr
     have i1:=lV g1
     have i2:=Ki g3
     have l1:=dY _ _ _ g1
     have l2:=Kg _ _ _ g3
     obtain⟨i3,i4,_,i6,i7⟩:=vJ _ _ _ _ _ g5
     rw[UI]at i3
     rw[Uv]at l1
     simp only[Uh,U2,UD]at i6 i7
     refine⟨?_,rfl,i4,by omega,jJ (by omega) i7⟩
     unfold BW
     congr 1
     have:s' =s'.take 3++s'.drop 3:=(U9 3 s').symm
     rw[this,h2,i1,i2,i3,hn,hx]
     rfl
    ·rw[if_neg hr]at g6;cases g6
   ·rw[if_neg hx]at g4;cases g4
  ·rw[if_neg hn]at g2;cases g2
end Go.Proofs.YtgpofjbdjiajeaaGreatDoor
end
section
namespace Go.Proofs.YtgpofjbdjiajeaaGreatDoor
open Go.Ev Go
open List (headD tail getD length drop take)
open V (getI getL getT getS getB)
set_option maxRecDepth 100000
variable (call : FuncId → Fun) (icall : aN (V × List Ob)) (again : List It → St → Option (V × List Ob))
def T6 (call:FuncId→Fun):Option (V×List Ob):=
 TN (call 7 [(V.lst 5 false [])] []) fun z0=>
 TN (call 8 [(V.lst 5 false []),(V.agg [(V.int .i64 (getI (headD (V.cells (headD (getT z0.1) V.bot)) V.bot))),(V.int .i64 (getI (headD (tail (V.cells (headD (getT z0.1) V.bot))) V.bot))),(V.int .i64 (getI (headD (tail (tail (V.cells (headD (getT z0.1) V.bot)))) V.bot))),(V.int .i64 (getI (headD (tail (tail (tail (V.cells (headD (getT z0.1) V.bot))))) V.bot))),(V.int .i64 (getI (headD (tail (tail (tail (tail (V.cells (headD (getT z0.1) V.bot)))))) V.bot))),(V.lst 31 false (getL (headD (tail (tail (tail (tail (tail (V.cells (headD (getT z0.1) V.bot))))))) V.bot))),(V.lst 27 false (getL (headD (tail (tail (tail (tail (tail (tail (V.cells (headD (getT z0.1) V.bot)))))))) V.bot))),(V.int .i64 (getI (headD (tail (tail (tail (tail (tail (tail (tail (V.cells (headD (getT z0.1) V.bot))))))))) V.bot))),(V.int .i64 (getI (headD (tail (tail (tail (tail (tail (tail (tail (tail (V.cells (headD (getT z0.1) V.bot)))))))))) V.bot)))])] []) fun z1=>
 TN (call 9 [(V.lst 5 false []),(V.lst 5 false (getL (headD (getT z1.1) V.bot)))] []) fun z2=>
 TN (call 9 [(V.lst 5 false [(V.int .u8 120)]),(V.lst 5 false (getL (headD (getT z1.1) V.bot)))] []) fun z3=>
 TN (call 14 [(V.lst 5 false (getL (headD (getT z1.1) V.bot)))] []) fun z4=>
 TN (if((getI (headD (tail (getT z1.1)) V.bot))==(0:Int))=true then
 if(((length (getL (headD (getT z1.1) V.bot)):Nat):Int)==(15:Int))=true then
 chk (decide (0≤(0:Int))) (chk (decide ((0:Int)<((length (getL (headD (getT z1.1) V.bot)):Nat):Int))) (if((getI (getD (getL (headD (getT z1.1) V.bot)) (TO (0:Int)) V.bot))==(76:Int))=true then
 chk (decide (0≤(2:Int))) (chk (decide ((2:Int)<((length (getL (headD (getT z1.1) V.bot)):Nat):Int))) (if((getI (getD (getL (headD (getT z1.1) V.bot)) (TO (2:Int)) V.bot))==(1:Int))=true then
 if((getI (headD (tail (getT z2.1)) V.bot))==(0:Int))=true then
 if((getI (headD (V.cells (headD (getT z2.1) V.bot)) V.bot))==(getI (headD (V.cells (headD (getT z0.1) V.bot)) V.bot)))=true then
 if((getI (headD (tail (getT z3.1)) V.bot))==(34:Int))=true then
 if((getI (headD (getT z4.1) V.bot))==(0:Int))=true then
 (match(getB (headD (tail (getT z4.1)) V.bot))with
 |true=>
 some true
 |false=>
 some false)
 else
 some false
 else
 some false
 else
 some false
 else
 some false
 else
 some false))
 else
 some false))
 else
 some false
 else
 some false) fun y5=>
 some ((V.bool y5),[])
def A6:List V:=[]
theorem E6:GO 6 Tryz.f6 A6 [] call icall again=T6 call:=by kernel_rfl
theorem C6 (k:Nat):aA cfg (k+1) 6 A6 []=T6 (aA cfg k):=
 (show aA cfg (k+1) 6 A6 []=GO 6 Tryz.f6 A6 [] (aA cfg k) (aF cfg (aA cfg k) 20) (RN 6 Tryz.f6 [] (aA cfg k) (aF cfg (aA cfg k) 20) k)by kernel_rfl).trans (E6 _ _ _)
theorem M6 {r:V×List Ob} (h:Evt (fun k n=>T6 (aA cfg k)) r):Ret 6 [] [] r:=aR (g:=fun k n=>T6 (aA cfg k)) (fun k=>C6 k) h
def T5 (call:FuncId→Fun) (a0:List V) (a1:List V) (a2:Int) (a3:Int):Option (V×List Ob):=
 TN (call 6 [] []) fun z0=>
 if(!(getB z0.1))=true then
 some ((V.bool false),[])
 else
 TN (if(decide (((length a0:Nat):Int)>(600:Int)))=false then
 some (decide (((length a1:Nat):Int)>(300:Int)))
 else
 some true) fun y1=>
 if y1=true then
 some ((V.bool true),[])
 else
 TN (call 7 [(V.lst 5 false a0)] []) fun z2=>
 TN (call 8 [(V.lst 5 false a0),(V.agg [(V.int .i64 (getI (headD (V.cells (headD (getT z2.1) V.bot)) V.bot))),(V.int .i64 (getI (headD (tail (V.cells (headD (getT z2.1) V.bot))) V.bot))),(V.int .i64 (getI (headD (tail (tail (V.cells (headD (getT z2.1) V.bot)))) V.bot))),(V.int .i64 (getI (headD (tail (tail (tail (V.cells (headD (getT z2.1) V.bot))))) V.bot))),(V.int .i64 (getI (headD (tail (tail (tail (tail (V.cells (headD (getT z2.1) V.bot)))))) V.bot))),(V.lst 31 false (getL (headD (tail (tail (tail (tail (tail (V.cells (headD (getT z2.1) V.bot))))))) V.bot))),(V.lst 27 false (getL (headD (tail (tail (tail (tail (tail (tail (V.cells (headD (getT z2.1) V.bot)))))))) V.bot))),(V.int .i64 (getI (headD (tail (tail (tail (tail (tail (tail (tail (V.cells (headD (getT z2.1) V.bot))))))))) V.bot))),(V.int .i64 (getI (headD (tail (tail (tail (tail (tail (tail (tail (tail (V.cells (headD (getT z2.1) V.bot)))))))))) V.bot)))])] []) fun z3=>
 TN (if((getI (headD (tail (getT z2.1)) V.bot)) != (0:Int))=false then
 if((getI (headD (tail (getT z3.1)) V.bot)) != (0:Int))=false then
 some (decide (((length (getL (headD (getT z3.1) V.bot)):Nat):Int)<(4:Int)))
 else
 some true
 else
 some true) fun y4=>
 if y4=true then
 some ((V.bool false),[])
 else
 chk (decide (0≤(TK .i64 (((length (getL (headD (getT z3.1) V.bot)):Nat):Int) - (4:Int))))) (chk (decide ((TK .i64 (((length (getL (headD (getT z3.1) V.bot)):Nat):Int) - (4:Int)))≤((length (getL (headD (getT z3.1) V.bot)):Nat):Int))) (chk (decide (0≤(0:Int))) (chk (decide ((0:Int)≤(TK .i64 (((length (getL (headD (getT z3.1) V.bot)):Nat):Int) - (4:Int))))) (chk (cE [] (drop (TO (0:Int)) (take (TO (TK .i64 (((length (getL (headD (getT z3.1) V.bot)):Nat):Int) - (4:Int)))) (getL (headD (getT z3.1) V.bot)))) 2) (chk (((length ([]++(drop (TO (0:Int)) (take (TO (TK .i64 (((length (getL (headD (getT z3.1) V.bot)):Nat):Int) - (4:Int)))) (getL (headD (getT z3.1) V.bot))))):Nat):Int) != 0) (chk (decide (0≤(Vn (TK .i64 a2) ((length ([]++(drop (TO (0:Int)) (take (TO (TK .i64 (((length (getL (headD (getT z3.1) V.bot)):Nat):Int) - (4:Int)))) (getL (headD (getT z3.1) V.bot))))):Nat):Int)))) (chk (decide ((Vn (TK .i64 a2) ((length ([]++(drop (TO (0:Int)) (take (TO (TK .i64 (((length (getL (headD (getT z3.1) V.bot)):Nat):Int) - (4:Int)))) (getL (headD (getT z3.1) V.bot))))):Nat):Int))<((length ([]++(drop (TO (0:Int)) (take (TO (TK .i64 (((length (getL (headD (getT z3.1) V.bot)):Nat):Int) - (4:Int)))) (getL (headD (getT z3.1) V.bot))))):Nat):Int))) (chk (decide (0≤(Vn (TK .i64 a2) ((length ([]++(drop (TO (0:Int)) (take (TO (TK .i64 (((length (getL (headD (getT z3.1) V.bot)):Nat):Int) - (4:Int)))) (getL (headD (getT z3.1) V.bot))))):Nat):Int)))) (chk (decide ((Vn (TK .i64 a2) ((length ([]++(drop (TO (0:Int)) (take (TO (TK .i64 (((length (getL (headD (getT z3.1) V.bot)):Nat):Int) - (4:Int)))) (getL (headD (getT z3.1) V.bot))))):Nat):Int))<((length ([]++(drop (TO (0:Int)) (take (TO (TK .i64 (((length (getL (headD (getT z3.1) V.bot)):Nat):Int) - (4:Int)))) (getL (headD (getT z3.1) V.bot))))):Nat):Int))) (TN (call 13 [(V.str (bytesOf (List.set ([]++(drop (TO (0:Int)) (take (TO (TK .i64 (((length (getL (headD (getT z3.1) V.bot)):Nat):Int) - (4:Int)))) (getL (headD (getT z3.1) V.bot))))) (TO (Vn (TK .i64 a2) ((length ([]++(drop (TO (0:Int)) (take (TO (TK .i64 (((length (getL (headD (getT z3.1) V.bot)):Nat):Int) - (4:Int)))) (getL (headD (getT z3.1) V.bot))))):Nat):Int))) (V.int .u8 (bits BinOp.xor .u8 (getI (getD ([]++(drop (TO (0:Int)) (take (TO (TK .i64 (((length (getL (headD (getT z3.1) V.bot)):Nat):Int) - (4:Int)))) (getL (headD (getT z3.1) V.bot))))) (TO (Vn (TK .i64 a2) ((length ([]++(drop (TO (0:Int)) (take (TO (TK .i64 (((length (getL (headD (getT z3.1) V.bot)):Nat):Int) - (4:Int)))) (getL (headD (getT z3.1) V.bot))))):Nat):Int))) V.bot)) a3)))))] []) fun z5=>
 TN (call 9 [(V.lst 5 false a0),(V.lst 5 false (ofBytes (getS z5.1)))] []) fun z6=>
 if((getI (headD (tail (getT z6.1)) V.bot)) != (0:Int))=true then
 some ((V.bool (a3 != (0:Int))),[])
 else
 TN (call 8 [(V.lst 5 false a0),(V.agg [(V.int .i64 (getI (headD (V.cells (headD (getT z6.1) V.bot)) V.bot))),(V.int .i64 (getI (headD (tail (V.cells (headD (getT z6.1) V.bot))) V.bot))),(V.int .i64 (getI (headD (tail (tail (V.cells (headD (getT z6.1) V.bot)))) V.bot))),(V.int .i64 (getI (headD (tail (tail (tail (V.cells (headD (getT z6.1) V.bot))))) V.bot))),(V.int .i64 (getI (headD (tail (tail (tail (tail (V.cells (headD (getT z6.1) V.bot)))))) V.bot))),(V.lst 31 false (getL (headD (tail (tail (tail (tail (tail (V.cells (headD (getT z6.1) V.bot))))))) V.bot))),(V.lst 27 false (getL (headD (tail (tail (tail (tail (tail (tail (V.cells (headD (getT z6.1) V.bot)))))))) V.bot))),(V.int .i64 (getI (headD (tail (tail (tail (tail (tail (tail (tail (V.cells (headD (getT z6.1) V.bot))))))))) V.bot))),(V.int .i64 (getI (headD (tail (tail (tail (tail (tail (tail (tail (tail (V.cells (headD (getT z6.1) V.bot)))))))))) V.bot)))])] []) fun z7=>
 if((getI (headD (tail (getT z7.1)) V.bot))==(0:Int))=true then
 some ((V.bool (sEq (bytesOf (getL (headD (getT z7.1) V.bot))) (bytesOf (ofBytes (getS z5.1))))),[])
 else
 some ((V.bool false),[])))))))))))
def A5 (a0:List V) (a1:List V) (a2:Int) (a3:Int):List V:=[V.lst 5 false a0,V.lst 5 false a1,V.int IntKind.u16 a2,V.int UT a3]
theorem E5 (a0:List V) (a1:List V) (a2:Int) (a3:Int):GO 5 Tryz.f5 (A5 a0 a1 a2 a3) [] call icall again=T5 call a0 a1 a2 a3:=by kernel_rfl
theorem C5 (k:Nat) (a0:List V) (a1:List V) (a2:Int) (a3:Int):aA cfg (k+1) 5 (A5 a0 a1 a2 a3) []=T5 (aA cfg k) a0 a1 a2 a3:=
 (show aA cfg (k+1) 5 (A5 a0 a1 a2 a3) []=GO 5 Tryz.f5 (A5 a0 a1 a2 a3) [] (aA cfg k) (aF cfg (aA cfg k) 20) (RN 5 Tryz.f5 [] (aA cfg k) (aF cfg (aA cfg k) 20) k)by kernel_rfl).trans (E5 _ _ _ a0 a1 a2 a3)
theorem M5 (a0:List V) (a1:List V) (a2:Int) (a3:Int) {r:V×List Ob} (h:Evt (fun k n=>T5 (aA cfg k) a0 a1 a2 a3) r):Ret 5 [V.lst 5 false a0,V.lst 5 false a1,V.int IntKind.u16 a2,V.int UT a3] [] r:=aR (g:=fun k n=>T5 (aA cfg k) a0 a1 a2 a3) (fun k=>C5 k a0 a1 a2 a3) h
def MJ (call:FuncId→Fun) (ag0:List V→Int→List V→Int→Option (V×List Ob)) (l0:List V) (i1:Int) (o2:List V) (i3:Int):Option (V×List Ob):=
 if(decide (i3≤(TK .i64 (bits BinOp.and .u8 i1 (15:Int)))))=true then
 chk (cE o2 [(V.int .u8 120)] 2) ((ag0 (l0) (i1) ((o2++[(V.int .u8 120)])) ((TK .i64 (i3+(1:Int))))))
 else
 TN (call 7 [(V.lst 5 false l0)] []) fun z0=>
 TN (call 7 [(V.lst 5 false o2)] []) fun z1=>
 TN (call 8 [(V.lst 5 false l0),(V.agg [(V.int .i64 (getI (headD (V.cells (headD (getT z0.1) V.bot)) V.bot))),(V.int .i64 (getI (headD (tail (V.cells (headD (getT z0.1) V.bot))) V.bot))),(V.int .i64 (getI (headD (tail (tail (V.cells (headD (getT z0.1) V.bot)))) V.bot))),(V.int .i64 (getI (headD (tail (tail (tail (V.cells (headD (getT z0.1) V.bot))))) V.bot))),(V.int .i64 (getI (headD (tail (tail (tail (tail (V.cells (headD (getT z0.1) V.bot)))))) V.bot))),(V.lst 31 false (getL (headD (tail (tail (tail (tail (tail (V.cells (headD (getT z0.1) V.bot))))))) V.bot))),(V.lst 27 false (getL (headD (tail (tail (tail (tail (tail (tail (V.cells (headD (getT z0.1) V.bot)))))))) V.bot))),(V.int .i64 (getI (headD (tail (tail (tail (tail (tail (tail (tail (V.cells (headD (getT z0.1) V.bot))))))))) V.bot))),(V.int .i64 (getI (headD (tail (tail (tail (tail (tail (tail (tail (tail (V.cells (headD (getT z0.1) V.bot)))))))))) V.bot)))])] []) fun z2=>
 TN (call 8 [(V.lst 5 false o2),(V.agg [(V.int .i64 (getI (headD (V.cells (headD (getT z1.1) V.bot)) V.bot))),(V.int .i64 (getI (headD (tail (V.cells (headD (getT z1.1) V.bot))) V.bot))),(V.int .i64 (getI (headD (tail (tail (V.cells (headD (getT z1.1) V.bot)))) V.bot))),(V.int .i64 (getI (headD (tail (tail (tail (V.cells (headD (getT z1.1) V.bot))))) V.bot))),(V.int .i64 (getI (headD (tail (tail (tail (tail (V.cells (headD (getT z1.1) V.bot)))))) V.bot))),(V.lst 31 false (getL (headD (tail (tail (tail (tail (tail (V.cells (headD (getT z1.1) V.bot))))))) V.bot))),(V.lst 27 false (getL (headD (tail (tail (tail (tail (tail (tail (V.cells (headD (getT z1.1) V.bot)))))))) V.bot))),(V.int .i64 (getI (headD (tail (tail (tail (tail (tail (tail (tail (V.cells (headD (getT z1.1) V.bot))))))))) V.bot))),(V.int .i64 (getI (headD (tail (tail (tail (tail (tail (tail (tail (tail (V.cells (headD (getT z1.1) V.bot)))))))))) V.bot)))])] []) fun z3=>
 if((getI (headD (tail (getT z0.1)) V.bot)) != (0:Int))=false then
 if((getI (headD (tail (getT z1.1)) V.bot)) != (0:Int))=false then
 if((getI (headD (tail (getT z2.1)) V.bot)) != (0:Int))=false then
 if((getI (headD (tail (getT z3.1)) V.bot)) != (0:Int))=false then
 if(sEq (bytesOf (getL (headD (getT z2.1) V.bot))) (bytesOf (getL (headD (getT z3.1) V.bot))))=true then
 some ((V.bool false),[])
 else
 TN (call 9 [(V.lst 5 false o2),(V.lst 5 false (getL (headD (getT z2.1) V.bot)))] []) fun z4=>
 TN (call 9 [(V.lst 5 false l0),(V.lst 5 false (getL (headD (getT z3.1) V.bot)))] []) fun z5=>
 TN (call 9 [(V.lst 5 false l0),(V.lst 5 false (getL (headD (getT z2.1) V.bot)))] []) fun z6=>
 TN (if((getI (headD (tail (getT z4.1)) V.bot))==(34:Int))=true then
 if((getI (headD (tail (getT z5.1)) V.bot))==(34:Int))=true then
 some ((getI (headD (tail (getT z6.1)) V.bot))==(0:Int))
 else
 some false
 else
 some false) fun y7=>
 some ((V.bool y7),[])
 else
 some ((V.bool false),[])
 else
 some ((V.bool false),[])
 else
 some ((V.bool false),[])
 else
 some ((V.bool false),[])
def T4 (call:FuncId→Fun) (ag0:List V→Int→List V→Int→Option (V×List Ob)) (a0:List V) (a1:Int):Option (V×List Ob):=
 TN (call 6 [] []) fun z0=>
 if(!(getB z0.1))=true then
 some ((V.bool false),[])
 else
 if(decide (((length a0:Nat):Int)>(600:Int)))=true then
 some ((V.bool true),[])
 else
 chk (cE [] a0 2) ((ag0 (a0) (a1) (([]++a0)) ((0:Int))))
def A4 (a0:List V) (a1:Int):List V:=[V.lst 5 false a0,V.int UT a1]
def Ko (l0:List V) (i1:Int) (o2:List V) (i3:Int):St:=⟨[(V.lst 5 false l0),(V.int UT i1),V.bot,V.bot,V.bot,V.bot,(V.own 5 o2),(V.int TM i3)]++TZ 104 V.bot,[]⟩
theorem Tz (l0:List V) (i1:Int) (o2:List V) (i3:Int):
 RM 4 Tryz.f4 [] call icall again (aJ Tryz.f4 0) (Ko l0 i1 o2 i3)=MJ call (fun l0 i1 o2 i3=>again (aJ Tryz.f4 0) (Ko l0 i1 o2 i3)) l0 i1 o2 i3:=by kernel_rfl
theorem E4 (a0:List V) (a1:Int):GO 4 Tryz.f4 (A4 a0 a1) [] call icall again=T4 call (fun l0 i1 o2 i3=>again (aJ Tryz.f4 0) (Ko l0 i1 o2 i3)) a0 a1:=by kernel_rfl
def L4 (call:FuncId→Fun):Nat→(List V→Int→List V→Int→Option (V×List Ob))
 |0=>fun _ _ _ _=>none
 |n+1=>MJ call (L4 call n)
theorem R4 (call:FuncId→Fun) (icall:aN (V×List Ob)):∀n,(∀(l0:List V) (i1:Int) (o2:List V) (i3:Int),RN 4 Tryz.f4 [] call icall n (aJ Tryz.f4 0) (Ko l0 i1 o2 i3)=(L4 call n) l0 i1 o2 i3)
 |0=>fun l0 i1 o2 i3=>rfl
 |n+1=>by
  have ih:=R4 call icall n
  exact fun l0 i1 o2 i3=>(Tz call icall (RN 4 Tryz.f4 [] call icall n) l0 i1 o2 i3).trans (by rw[show(fun l0 i1 o2 i3=>RN 4 Tryz.f4 [] call icall n (aJ Tryz.f4 0) (Ko l0 i1 o2 i3))=(L4 call n)from(funext fun l0=>funext fun i1=>funext fun o2=>funext fun i3=>ih l0 i1 o2 i3)];rfl)
theorem C4 (k:Nat) (a0:List V) (a1:Int):aA cfg (k+1) 4 (A4 a0 a1) []=T4 (aA cfg k) (L4 (aA cfg k) k) a0 a1:=by
 have ih:=R4 (aA cfg k) (aF cfg (aA cfg k) 20) k
 refine(show aA cfg (k+1) 4 (A4 a0 a1) []=GO 4 Tryz.f4 (A4 a0 a1) [] (aA cfg k) (aF cfg (aA cfg k) 20) (RN 4 Tryz.f4 [] (aA cfg k) (aF cfg (aA cfg k) 20) k)by kernel_rfl).trans ((E4 _ _ _ a0 a1).trans ?_)
 rw[show(fun l0 i1 o2 i3=>RN 4 Tryz.f4 [] (aA cfg k) (aF cfg (aA cfg k) 20) k (aJ Tryz.f4 0) (Ko l0 i1 o2 i3))=(L4 (aA cfg k) k)from(funext fun l0=>funext fun i1=>funext fun o2=>funext fun i3=>ih l0 i1 o2 i3)]
theorem M4 (a0:List V) (a1:Int) {r:V×List Ob} (h:Evt (fun k n=>T4 (aA cfg k) (L4 (aA cfg k) n) a0 a1) r):Ret 4 [V.lst 5 false a0,V.int UT a1] [] r:=aR (g:=fun k n=>T4 (aA cfg k) (L4 (aA cfg k) n) a0 a1) (fun k=>C4 k a0 a1) h
theorem Sr (l0:List V) (i1:Int) (o2:List V) (i3:Int) {r:V×List Ob} (h:Evt (fun k n=>MJ (aA cfg k) (L4 (aA cfg k) n) l0 i1 o2 i3) r):Evt (fun k n=>(L4 (aA cfg k) n) l0 i1 o2 i3) r:=aX (fun k n=>rfl) h
end Go.Proofs.YtgpofjbdjiajeaaGreatDoor
end
section
namespace Go.Proofs.YtgpofjbdjiajeaaGreatDoor
open Go.Ev Go
def gC (b:Bs):Bs:=BW b (cF b)
theorem vP (b:Bs) (hb:b.length≤100000):12≤(gC b).length∧(gC b).length≤200000:=by
 obtain⟨h1,h2,h3,h4,h5,h6⟩:=kC b hb
 have h:=rU b (cF b) h1
 unfold gC BW
 rw[nY]
 omega
theorem rV (b:Bs) (hb:b.length≤100000):Ret 7 [.lst 5 false (ofBytes b)] [] (.tup [partV (cF b), .int .i64 0],[]):=
 Tx b hb
theorem Ex (b:Bs) (hb:b.length≤100000):Ret 16 [partV (cF b), .int .i64 ((b.length:Nat):Int)] [] (.int .i64 0,[]):=by
 have:=Kl b hb ((b.length:Nat):Int)
 rw[if_pos rfl]at this
 exact this
theorem zG (b:Bs) (hb:b.length≤100000):Ret 8 [.lst 5 false (ofBytes b),partV (cF b)] [] (.tup [.lst 5 false (ofBytes (gC b)), .int .i64 0],[]):=by
 obtain⟨h1,h2,h3,h4,h5,h6⟩:=kC b hb
 have:=Sq b (cF b) (by omega) h1 (jJ (by omega) h6) (by omega) 0 (Ex b hb)
 rw[if_pos rfl]at this
 exact this
theorem Jh (b:Bs) (hb:b.length≤100000):Ret 9 [.lst 5 false (ofBytes b), .lst 5 false (ofBytes (gC b))] [] (.tup [partV (cF b), .int .i64 0],[]):=by
 obtain⟨h1,h2,h3,h4,h5,h6⟩:=kC b hb
 have hp:=vO b b (by omega) (cF b) h1 h3 h4
 rw[if_pos ⟨rfl,rfl⟩]at hp
 have hl:=vP b hb
 have:=P5 b (gC b) (by omega) (by omega)
 rw[show zB b (gC b)=_ from hp]at this
 have:=this 0 (Ex b hb)
 rw[if_pos rfl]at this
 exact this
theorem Ey (b o:Bs) (hb:b.length≤100000) (ho:o.length≤100000) (hn:b.length≠o.length):Ret 9 [.lst 5 false (ofBytes o), .lst 5 false (ofBytes (gC b))] [] (.tup [pt0, .int .i64 34],[]):=by
 obtain⟨h1,h2,h3,h4,h5,h6⟩:=kC b hb
 have hp:=vO b o (by omega) (cF b) h1 h3 h4
 rw[if_neg (fun q=>hn q.1)]at hp
 have hl:=vP b hb
 have:=P5 o (gC b) (by omega) (by omega)
 rw[show zB o (gC b)=_ from hp]at this
 exact this
theorem NX (b o:Bs) (hb:b.length≤100000) (ho:o.length≤100000) (hn:b.length≠o.length):gC b≠gC o:=by
 intro e
 obtain⟨h1,h2,h3,h4,h5,h6⟩:=kC b hb
 obtain⟨k1,k2,k3,k4,k5,k6⟩:=kC o ho
 have hp:=vO b o (by omega) (cF b) h1 h3 h4
 have hq:=vO o o (by omega) (cF o) k1 k3 k4
 rw[if_neg (fun q=>hn q.1)]at hp
 rw[if_pos ⟨rfl,rfl⟩]at hq
 have e' :BW b (cF b)=BW o (cF o):=e
 rw[e',hq]at hp
 cases hp
theorem MK (b:Bs) (hb:b.length≤100000):Ret 14 [.lst 5 false (ofBytes (gC b))] [] (.tup [.int .i64 ((b.length:Nat):Int), .bool true],[]):=by
 obtain⟨h1,h2,h3,h4,h5,h6⟩:=kC b hb
 have hl:=rU b (cF b) h1
 have hl2:=vP b hb
 refine M14 (ofBytes (gC b)) ?_
 unfold T14
 refine MF (gC b) (by omega) _ (fun k l=>TN (aA cfg k 22 [V.ref 0 0] [rdO l 3 true 0 V.bot]) fun z=>some (V.tup [V.int .i64 (V.getI z.1),V.bool (V.ifN (rdE z))],[])) _ ?_
 have hg:bgF (gC b)= .ok (cX b (cF b)):=GT _ (by omega) (BE b (cF b))
 rw[hg]
 refine⟨by omega,by omega,?_⟩
 obtain⟨t1,t2⟩:=nE (cX b (cF b)) (by omega) 3 (by omega)
 have hn:lU ((cX b (cF b)).drop 3)= .ok (b.length,le4 (eB b).toNat++kT (cF b)):=by
  rw[BD];exact kB (by omega) _
 obtain⟨a',g1,g2,g3,g4⟩:=t1 _ _ hn
 refine aB (p:=(Kj b.length,[rdS (cX b (cF b)) a' none])) g4 ?_
 exact aD _
theorem NY:cN [] 32 0 0 false 1=(eM 0 0 0,1):=by kernel_rfl
theorem TA:cF []=eM 0 0 0:=by
 show(cN [] 32 0 0 false 1).1=_
 rw[NY]
theorem TB:∃t:Bs,gC []=76::66::1::t∧t.length=12:=by
 refine⟨(dO 0++(le4 (eB []).toNat++kT (eM 0 0 0)))++le4 (eB (cX [] (eM 0 0 0))).toNat,?_,?_⟩
 ·unfold gC BW fJ
  rw[TA]
  rfl
 ·have e1:(dO 0).length=1:=by kernel_rfl
  have e2:(kT (eM 0 0 0)).length=3:=by kernel_rfl
  have e3:∀x,(le4 x).length=4:=fun _=>rfl
  simp only[Ug,e1,e2,e3]
theorem Ss:Ret 6 [] [] (.bool true,[]):=by
 obtain⟨t,ht,hl⟩:=TB
 have r0:Ret 7 [.lst 5 false []] [] (.tup [partV (cF []), .int .i64 0],[]):=rV [] (by simp)
 have r1:Ret 8 [.lst 5 false [],partV (cF [])] [] (.tup [.lst 5 false (ofBytes (gC [])), .int .i64 0],[]):=zG [] (by simp)
 have r2:Ret 9 [.lst 5 false [], .lst 5 false (ofBytes (gC []))] [] (.tup [partV (cF []), .int .i64 0],[]):=Jh [] (by simp)
 have r3:Ret 9 [.lst 5 false [.int .u8 120], .lst 5 false (ofBytes (gC []))] [] (.tup [pt0, .int .i64 34],[]):=Ey [] [120] (by simp) (by simp) (by simp)
 have r4:Ret 14 [.lst 5 false (ofBytes (gC []))] [] (.tup [.int .i64 0, .bool true],[]):=MK [] (by simp)
 refine M6 ?_
 simp only[T6]
 refine aB r0 ?_
 simp only[fC,Uc,Um,dF,cU]
 refine aB r1 ?_
 simp only[fC,Uc,Um,dF,bM]
 refine aB r2 ?_
 refine aB r3 ?_
 refine aB r4 ?_
 have z0:((0:Int)==0)=true:=rfl
 have z1:((34:Int)==34)=true:=rfl
 have hL:(((ofBytes (gC [])).length:Nat):Int)=15:=by rw[aL,ht];simp only[Ua,hl];rfl
 have z2:((15:Int)==15)=true:=rfl
 have e0:V.getI (Ul (ofBytes (gC [])) (TO 0) V.bot)=76:=by rw[ht];rfl
 have e2:V.getI (Ul (ofBytes (gC [])) (TO 2) V.bot)=1:=by rw[ht];rfl
 have z3:((76:Int)==76)=true:=rfl
 have z4:((1:Int)==1)=true:=rfl
 have z5:∀x:Int,(x==x)=true:=fun x=>by simp
 simp only[fC,Uc,Um,dF,jI,hL,z5,if_true,aI (VJ 0),aI (show(0:Int)<15 by decide),aI (show(0:Int)≤2 by decide),aI (show(2:Int)<15 by decide),e0,e2,aY]
 exact aD _
end Go.Proofs.YtgpofjbdjiajeaaGreatDoor
end
section
namespace Go.Proofs.YtgpofjbdjiajeaaGreatDoor
open Go.Ev Go
theorem P6:∀c:UInt8,TK .i64 (bits .and .u8 ((c.toNat:Nat):Int) 15)=((c.toNat % 16:Nat):Int):=nU (by decide+kernel)
theorem Kp (a o:Bs) (c:Int) (i:Nat) (ha:a.length≤600) (ho:o.length≤1000) (hn:a.length≠o.length) (m:Nat) (hm:TK .i64 (bits .and .u8 c 15)=((m:Nat):Int)) (hi:m<i):
  Evt (fun k j=>L4 (aA cfg k) j (ofBytes a) c (ofBytes o) ((i:Nat):Int)) (.bool true,[]):=by
 refine Sr (ofBytes a) c (ofBytes o) ((i:Nat):Int) ?_
 have h1:¬(((i:Nat):Int)≤((m:Nat):Int)):=by omega
 have z:((0:Int) != 0)=false:=rfl
 have z3:((34:Int)==34)=true:=rfl
 have z0:((0:Int)==0)=true:=rfl
 have hs:sEq (gC a) (gC o)=false:=by
  have:=NX a o (by omega) (by omega) hn
  unfold sEq
  simpa using this
 simp only[MJ,hm,h1,decide_false,TL,if_false]
 refine aB (rV a (by omega)) ?_
 refine aB (rV o (by omega)) ?_
 simp only[fC,Uc,Um,dF,cU]
 refine aB (zG a (by omega)) ?_
 refine aB (zG o (by omega)) ?_
 simp only[fC,Uc,Um,dF,bM,z,if_true,cD,hs,TL,if_false]
 refine aB (Ey a o (by omega) (by omega) hn) ?_
 refine aB (Ey o a (by omega) (by omega) (fun q=>hn q.symm)) ?_
 refine aB (Jh a (by omega)) ?_
 simp only[fC,Uc,Um,dF,z3,if_true,aY,z0]
 exact aD _
theorem BF (a:Bs) (c:Int) (ha:a.length≤600) (m:Nat) (hm:TK .i64 (bits .and .u8 c 15)=((m:Nat):Int)) (hm2:m<16):∀(d i:Nat) (o:Bs),i+d=m+1→o.length=a.length+i→
  Evt (fun k j=>L4 (aA cfg k) j (ofBytes a) c (ofBytes o) ((i:Nat):Int)) (.bool true,[])
 |0,i,o,hi,ho=>Kp a o c i ha (by omega) (by omega) m hm (by omega)
 |d+1,i,o,hi,ho=>by
  refine Sr (ofBytes a) c (ofBytes o) ((i:Nat):Int) ?_
  have h1:(((i:Nat):Int)≤((m:Nat):Int)):=by omega
  have hw:TK .i64 (((i:Nat):Int)+1)=((i+1:Nat):Int):=by rw[wrap64 (by omega) (by omega)];omega
  have ap:cE (ofBytes o) [V.int UT 120] 2=true:=gB (by rw[aL];simp only[Ua,Uh];omega)
  have e:ofBytes o++[V.int UT 120]=ofBytes (o++[120]):=by simp[ofBytes]
  have next:=BF a c ha m hm hm2 d (i+1) (o++[120]) (by omega) (by simp[ho];omega)
  simp only[MJ,hm,h1,decide_true,if_true,cZ ap,e,hw]
  exact next
theorem TD (a:Bs) (n:Int) (hn:0≤n∧n<256):Ret 4 [.lst 5 false (ofBytes a), .int .u8 n] [] (.bool true,[]):=by
 obtain⟨c,rfl⟩:∃c:UInt8,n=((c.toNat:Nat):Int):=⟨Uo n.toNat,by simp;omega⟩
 refine M4 (ofBytes a) ((c.toNat:Nat):Int) ?_
 simp only[T4]
 refine aB Ss ?_
 by_cases ha:a.length≤600
 ·have h1:¬(((a.length:Nat):Int)>600):=by omega
  have ap:cE [] (ofBytes a) 2=true:=gB (by rw[aL];simp only[Uh];omega)
  simp only[jI,UP,TL,if_false,aL,h1,decide_false,cZ ap,UV]
  exact BF a _ ha (c.toNat % 16) (P6 c) (by omega) (c.toNat % 16+1) 0 a (by omega) (by omega)
 ·have h1:(((a.length:Nat):Int)>600):=by omega
  simp only[jI,UP,TL,if_false,aL,h1,decide_true,if_true]
  exact aD _
end Go.Proofs.YtgpofjbdjiajeaaGreatDoor
end
section
namespace Go.Proofs.YtgpofjbdjiajeaaGreatDoor
open Go.ChangeShapes Go.WideShapes Go.ChangeAt Go.RowKit Go.Ev
theorem cells5:Tryz.prog.cellsOf 5=1:=by kernel_rfl
theorem ML:aE cfg 5=1:=by kernel_rfl
theorem Su (n:Int):cI cfg 5 (.int .u8 n)=true:=by kernel_rfl
theorem NZ (zs:List Int):flat (zs.map (Value.int .u8))=zs.map (Value.int .u8):=by
 induction zs with
 |nil=>rfl
 |cons z zs ih=>simp only[flat,UE,U8,Value.cells]at ih ⊢;rw[ih];rfl
theorem GU {P:Program} {w:World} {r:Reach} {base:Nat} {t e:TypeId} {a:Addr} {len cap:Nat} (ht:P.underlying t=some (.slice e)) (h:Value.okWide P w r base t (.slice (some a) len cap)):a.block<w.heap.size:=by
 simp only[Value.okWide,ht,Cell.okWide,Cell.ok]at h
 obtain⟨_,_,_,_,row,cells,hs,_⟩:=h
 unfold World.shape? at hs
 by_cases hb:a.block<w.heap.size
 ·exact hb
 ·rw[Vk (by omega)]at hs
  simp at hs
set_option maxRecDepth 100000 in
theorem BG {H:Type} {enc:TypeId×Value→H} {W:World} {base:Nat} {v:Value} {d:DataW H} {p:List MemPlace} (hval:Value.okWide Tryz.prog W .any base 22 v)
  (h:DataW.Trod enc Tryz.prog W 0 (fun _=>true) true 22 v d p):
  ∃vs:List UInt8,Rep cfg W (kL W) [] (.lst 5 false (ofBytes vs)) v∧
   ∀W',Kept W W'→∀sp:Nat→Bool,(∀x∈p,sp x.block=true)→DataW.Trod enc Tryz.prog W' 0 sp true 22 v d p:=by
 obtain⟨a1,len,cap,rfl⟩:=okWide_slice Tryz.underlying22 hval
 obtain⟨fuel,hf⟩:=h
 rcases open_ints Tryz.underlying22 Tryz.underlying5 cells5 hf with⟨hcs,hx⟩|⟨a,len',cap',zs,hcs,_,hl,hm,hz,hx,hcell,hwz⟩
 ·simp[Value.cells]at hcs
  obtain⟨rfl,rfl,rfl⟩:=hcs
  simp only[Prod.mk.injEq]at hx
  obtain⟨rfl,rfl⟩:=hx
  refine⟨[],?_,fun W' _ sp _=>shut_slice_nil Tryz.underlying22⟩
  exact Rep.lst 5 false [] none 0 [] rfl (fun i v x h=>by simp at h) (fun v h=>by cases h) (fun x h=>by cases h) (by rw[ML];omega) (TY _) ⟨fun _=>rfl,fun p h=>by cases h⟩ (fun p h=>by cases h)
 ·simp[Value.cells]at hcs
  obtain⟨rfl,rfl,rfl⟩:=hcs
  simp only[Prod.mk.injEq]at hx
  obtain⟨rfl,rfl⟩:=hx
  have hblk:a.block<W.heap.size:=GU Tryz.underlying22 hval
  have hsn:some a=none→cap=0:=fun h=>by cases h
  have hsb:∀p,some a=some p→p.block<W.heap.size:=fun p hp=>by cases hp;exact hblk
  simp only[if_true]at hz
  have hrng:∀n∈zs,0≤n∧n<256:=fun n hn=>by have:=bounds_u8 (hwz n hn);omega
  refine⟨(zs.take len).map fun n=>Uo n.toNat,?_,fun W' hk sp hsp=>?_⟩
  ·have hxs:ofBytes ((zs.take len).map fun n=>Uo n.toNat)=(zs.take len).map (V.int .u8):=by
    unfold ofBytes
    rw[List.map_map]
    refine VB fun n hn=>?_
    have:=hrng n (U0 hn)
    simp only[Function.comp,Vm]
    congr 1
    omega
   have hlen:(ofBytes ((zs.take len).map fun n=>Uo n.toNat)).length=len:=by rw[hxs];simp;omega
   have:=Rep.lst (c:=cfg) (w:=W) (G:=kL W) (μ:=[]) 5 false (ofBytes ((zs.take len).map fun n=>Uo n.toNat)) (some a) cap ((zs.take len).map (Value.int .u8)) (by rw[hlen];simp;omega) (fun i v x hv hx=>by
     rw[hxs]at hv
     obtain⟨n,h1,rfl⟩:=bQ hv
     obtain⟨n',h2,rfl⟩:=bQ hx
     rw[h1]at h2;cases h2
     exact .int _ _) (fun v hv=>by
     rw[hxs]at hv
     obtain⟨n,_,rfl⟩:=Vy.1 hv
     exact Su n) (fun x hx=>by
     obtain⟨n,_,rfl⟩:=Vy.1 hx
     rw[ML];rfl) (by rw[ML];omega) (by rw[hlen];exact hl) ⟨hsn,hsb⟩ (fun p hp hne=>by
     cases hp
     have hl0:0<len:=by
      rcases VH len with h0|h0
      ·exact absurd (Ue (hlen.trans h0)) hne
      ·exact h0
     obtain⟨ab,ao,spot⟩:=a
     have hspot:spot=none:=by simpa[Addr.add]using World.cell?_spot (hcell 0 (by omega))
     subst hspot
     refine⟨rfl,?_⟩
     rw[NZ]
     refine Au fun j x hj=>?_
     have hjl:=(TQ.1 hj).1
     rw[Ui,Vo]at hjl
     have hjl:j<len∧j<zs.length:=by omega
     have hc:=hcell j (by omega)
     rw[Addr.add_lit]at hc
     rw[hc]
     rw[UC,Uw,if_pos hjl.1,TP hjl.2]at hj
     simp at hj
     rw[←hj];simp[Ul,hjl.2])
   rw[hlen]at this
   exact this
  ·have hzl:zs.length=(if sp a.block then cap else len):=by
    rcases VH zs.length with h0|h0
    ·split<;>omega
    ·have:sp a.block=true:=hsp (.cell a.block (a.off+0)) (by simp only[MemPlace.row,Vy,Wk];exact⟨0,h0,rfl⟩)
     rw[if_pos this];exact hz
   exact⟨2,shut_ints 0 Tryz.underlying22 Tryz.underlying5 cells5 (Wd _) hl hm hzl (fun i hi=>hk.cell _ _ (hcell i hi)) hwz⟩
end Go.Proofs.YtgpofjbdjiajeaaGreatDoor
end
section
namespace Go.Proofs.YtgpofjbdjiajeaaGreatDoor
open Go.ChangeShapes Go.WideShapes Go.ChangeAt Go.RowKit Go.Ev
theorem TE : Tryz.prog.globalNamed "errors.errorType" = some 0 := by kernel_rfl
theorem TF : (Tryz.prog.cutTypes.find? (·.1 == "internal/reflectlite.rtype")).map (·.2) = some 196 := by kernel_rfl
theorem Sv:Tryz.prog.types.size=259:=by kernel_rfl
theorem TG:((Vr 259).filter fun t=>Tryz.prog.rowNamed t [101,114,114,111,114])=[66]:=by kernel_rfl
theorem N1:typeHandle Tryz.prog 66= .pointer (some ⟨4,66,none⟩):=by kernel_rfl
theorem handle_of_laid {W:World} (h:laidMetH Tryz.prog Rows.recordSmallRow.laid W):W.cell? ⟨0,0,none⟩=some jO:=by
 have h' : laidMet Tryz.prog (Rows.recordSmallRow.laid.filter fun x => x.2.handleName?.isNone) W ∧ handlesMet Tryz.prog [("errors.errorType", Rows.laid_errors_errorType)] W := h
 obtain⟨name,u,ty,e1,e2,e3,e4,e5⟩:=h'.2 _ (Wl.2 rfl)
 have en:name=[101,114,114,111,114]:=(Option.some.inj e1).symm
 subst en
 obtain rfl:=Option.some.inj (TF.symm.trans e2)
 have hm:ty∈(Vr 259).filter fun t=>Tryz.prog.rowNamed t [101,114,114,111,114]:=List.mem_filter.2 ⟨Wk.2 (by rw[←Sv];exact e3),e4⟩
 rw[TG]at hm
 obtain rfl:=Wl.1 hm
 rw[N1]at e5
 have:=World.var?_cell TE e5 0
 simpa[jO]using this
theorem Ji {W:World} (h:laidMetH Tryz.prog Rows.recordSmallRow.laid W):∀g t,cfg.glob g=some t→pO W (kL W) g 0 t.vals:=by
 have hT:=handle_of_laid h
 intro g t hg
 have hg' :Lp g=some t:=hg
 unfold Lp at hg'
 split at hg'
 ·rename_i e
  subst e
  have e2:Dv.one jO=t:=Option.some.inj hg'
  cases e2
  refine Au fun j x hj=>?_
  simp only[Dv.vals]at hj
  match j,hj with
  |0,hj=>
   cases hj
   exact hT
  |j+1,hj=>simp at hj
 ·cases hg'
end Go.Proofs.YtgpofjbdjiajeaaGreatDoor
end
section
namespace Go.Proofs.YtgpofjbdjiajeaaGreatDoor
open Go.Ev Go
def EvB (g:Nat→Nat→Option (V×List Ob)):Prop:=∃t:Bool,Evt g (.bool t,[])
theorem vQ (b:Bool):EvB (fun _ _=>some (.bool b,[])):=⟨b,aD _⟩
theorem Jj {c:Prop} [Decidable c] {G H:Nat→Nat→Option (V×List Ob)} (h1:c→EvB G) (h2:¬c→EvB H):EvB (fun k n=>if c then G k n else H k n):=by
 by_cases h:c
 ·simp only[if_pos h];exact h1 h
 ·simp only[if_neg h];exact h2 h
theorem MM {c:Prop} [Decidable c] {x y:Bool} {F:Nat→Nat→Bool→Option (V×List Ob)} (h1:c→EvB (fun k n=>F k n x)) (h2:¬c→EvB (fun k n=>F k n y)):EvB (fun k n=>TN (if c then some x else some y) (F k n)):=by
 by_cases h:c
 ·simp only[if_pos h];exact h1 h
 ·simp only[if_neg h];exact h2 h
theorem Ez {f:FuncId} {args:List V} {v:V×List Ob} {F:Nat→Nat→V×List Ob→Option (V×List Ob)} (h:Ret f args [] v) (h2:EvB (fun k n=>F k n v)):EvB (fun k n=>TN (aA cfg k f args []) (F k n)):=by
 obtain⟨t,h2⟩:=h2
 exact⟨t,aB h h2⟩
mutual
theorem Ds:∀p:Pt,cntF p≤1000000→∃t:Bool,Ret 42 [partV p] [] (.bool t,[])
 | .mk k h b kids cuts e,hc=>by
  rw[cntF]at hc
  obtain⟨t,ih⟩:=BX kids (by omega)
  rw[partV,fD]
  have go:EvB (fun(k _:Nat)=>TN (aA cfg k 67 [.lst 31 false (kids.map partV), .clo (.func 68) [] []] []) fun z1=>some ((V.bool (!(V.getB z1.1))),([]:List Ob))):=Ez ih (vQ _)
  have main:EvB (fun m _=>T42 (aA cfg m) (k:Nat) (h.1:Nat) (h.2:Nat) (b.1:Nat) (b.2:Nat) (kids.map partV) (cuts.map cutV) (e.1:Nat) (e.2:Nat)):=by
   simp only[T42,aY]
   repeat' (first
    |exact vQ _
    |exact go
    |with_reducible refine MM (fun hh=>?_) (fun hh=>?_)
    |with_reducible refine Jj (fun hh=>?_) (fun hh=>?_))
   all_goals
    have hl:kids.length=1:=by
     simp only[Ui,beq_iff_eq]at hh
     omega
    match kids,hl with
    |[q],_=>
     have r25:=MA q
     have k8:(0:Int)<((1:Nat):Int):=by omega
     have hd:([q].map partV).getD 0 .bot=partV q:=rfl
     simp only[Ui,Ua,Uh,UD,aI (VJ 0),aI k8,VP,hd,cU]
     refine Ez r25 ?_
     repeat' (first
      |exact vQ _
      |exact go
      |with_reducible refine Jj (fun hh=>?_) (fun hh=>?_))
  obtain⟨t',main⟩:=main
  exact⟨t',M42 (k:Nat) (h.1:Nat) (h.2:Nat) (b.1:Nat) (b.2:Nat) (kids.map partV) (cuts.map cutV) (e.1:Nat) (e.2:Nat) main⟩
theorem BX:∀l:List Pt,dW l≤1000000→∃t:Bool,Ret 67 [.lst 31 false (l.map partV), .clo (.func 68) [] []] [] (.bool t,[])
 |l,hc=>by
  obtain⟨i,hi⟩:=BH l [] (by simpa using hc)
  have r67:Ret 96 [.lst 31 false (l.map partV), .clo (.func 68) [] []] [] (.int .i64 i,[]):=by
   refine M96 (l.map partV) ?_
   simp only[T96,Ui]
   exact hi
  have main:EvB (fun m _=>T67 (aA cfg m) (l.map partV)):=by
   simp only[T67]
   exact Ez r67 (vQ _)
  obtain⟨t,main⟩:=main
  exact⟨t,M67 (l.map partV) main⟩
theorem BH:∀(r pre:List Pt),pre.length+dW r≤1000000→∃i:Int,
  Evt (fun k j=>L96 (aA cfg k) j ((pre++r).map partV) ((pre++r).length:Nat) (pre.length:Nat)) (.int .i64 i,[])
 |[],pre,h=>by
  refine⟨-1,Jd ((pre++[]).map partV) ((pre++[]).length:Nat) (pre.length:Nat) ?_⟩
  have h1:¬((pre.length:Int)<((pre++[]).length:Nat)):=by simp
  simp only[Bz,h1,decide_false,TL,if_false]
  exact aD _
 |p::r,pre,h=>by
  rw[dW]at h
  have hpos:=lS p
  obtain⟨t,r33⟩:=Ds p (by omega)
  obtain⟨i,next⟩:=BH r (pre++[p]) (by simp;omega)
  have h1:((pre.length:Int)<((pre++p::r).length:Nat)):=by simp;omega
  have h2:(0:Int)≤(pre.length:Nat):=by omega
  have hw:TK .i64 (((pre.length:Nat):Int)+1)=((pre.length+1:Nat):Int):=by rw[wrap64 (by omega) (by omega)];omega
  have r46:Ret 68 [partV p] [] (.bool (!t),[]):=by
   rw[←nW p]at r33 ⊢
   refine M68 (p.kd:Nat) (p.hd.1:Nat) (p.hd.2:Nat) (p.bd.1:Nat) (p.bd.2:Nat) (p.ks.map partV) (p.cs.map cutV) (p.en.1:Nat) (p.en.2:Nat) ?_
   simp only[T68]
   refine aB r33 ?_
   exact aD _
  simp only[Ud,Vt,Ug,Ua,Uh,UD]at next
  refine⟨if(!t)=true then(pre.length:Nat)else i,Jd ((pre++p::r).map partV) ((pre++p::r).length:Nat) (pre.length:Nat) ?_⟩
  simp only[Bz,h1,decide_true,if_true,aI h2,Ui,cR,TW,qW,cU,hw]
  refine aB r46 ?_
  simp only[jI,Ug,Ua]
  cases t
  ·simp only[UJ,if_true]
   exact aD _
  ·simp only[UP,TL,if_false]
   exact next
end
end Go.Proofs.YtgpofjbdjiajeaaGreatDoor
end
section
namespace Go.Proofs.YtgpofjbdjiajeaaGreatDoor
open Go.Ev Go
theorem TI (x y:UInt8):bits .xor .u8 ((x.toNat:Nat):Int) ((y.toNat:Nat):Int)=(((x ^^^ y).toNat:Nat):Int):=by
 have e:∀z:UInt8,BitVec.ofInt 8 ((z.toNat:Nat):Int)=z.toBitVec:=fun z=>by
  rw[BitVec.ofInt_natCast];simp
 have w:∀z:BitVec 8,TK .u8 ((z.toNat:Nat):Int)=((z.toNat:Nat):Int):=fun z=>by
  have h:∀n:Int,TK .u8 n=n % 256:=fun n=>by simp[TK,Wv,Uz]
  have:=z.isLt
  rw[h];omega
 show TK .u8 (((BitVec.ofInt 8 _ ^^^ BitVec.ofInt 8 _).toNat:Nat):Int)=_
 rw[e,e,w]
 rfl
def Nz {α:Type} (P:Bs→PR α):Prop:=∀s e,P s= .error e→e≠0
theorem Nz.ret {α:Type} (v:α):Nz (sC v):=by intro s e h;cases h
theorem Nz.err {α:Type} {e:Int} (he:e≠0):Nz (Gv (α:=α) e):=by intro s x h;cases h;exact he
theorem Nz.then {α β:Type} {P:Bs→PR α} {Q:α→Bs→PR β} (hp:Nz P) (hq:∀v,Nz (Q v)):Nz (dA P Q):=by
 intro s e h
 unfold dA at h
 cases hs:P s with
 |error x=>rw[hs]at h;cases h;exact hp s _ hs
 |ok w=>rw[hs]at h;exact hq _ _ _ h
theorem Jk:∀(s:Bs) (i x:Nat) (e:Int),lX i x s= .error e→e≠0
 |[],i,x,e,h=>by rw[lX]at h;cases h;decide
 |c::r,i,x,e,h=>by
  rw[lX]at h
  split at h
  ·cases h;decide
  ·split at h
   ·split at h
    ·cases h;decide
    ·cases h
   ·exact Jk r _ _ e h
theorem mU:Nz lU:=fun s e h=>Jk s 0 0 e h
theorem MN:Nz sT:=by
 intro s e h
 unfold sT at h
 split at h
 ·cases h
 ·cases h;decide
theorem GV (a:Nat):Nz (iF a):=mU.then fun _=>mU.then fun _=>Nz.ret _
theorem GW {g:Nat→Bs→PR Pt} (hg:∀a,Nz (g a)):∀n a,Nz (nX g n a)
 |0,a=>Nz.ret _
 |n+1,a=>(GV a).then fun c=>(hg c.2).then fun q=>(GW hg n q.bd.2).then fun t=>Nz.ret _
theorem Ii:∀d a,Nz (trT d a)
 |0,a=>mU.then fun _=>Nz.err (by decide)
 |d+1,a=>mU.then fun k=>by
  split
  ·exact Nz.err (by decide)
  ·refine mU.then fun h=>mU.then fun b=>?_
   split
   ·exact Nz.ret _
   ·split
    ·exact(Ii d _).then fun q=>Nz.ret _
    ·refine mU.then fun n=>?_
     split
     ·exact Nz.err (by decide)
     ·exact(GW (fun a=>Ii d a) n _).then fun t=>(GV _).then fun e=>Nz.ret _
theorem N2 (b:Bs):Nz (BC b):=mU.then fun n=>by
 unfold BB
 split
 ·refine MN.then fun x=>?_
  unfold sumP
  split
  ·refine(Ii 33 0).then fun p s e h=>?_
   unfold BA at h
   split at h
   ·cases h
   ·cases h;decide
  ·exact Nz.err (by decide)
 ·exact Nz.err (by decide)
theorem N3 {b r:Bs} {e:Int} (h:zB b r= .error e):e≠0:=by
 unfold zB at h
 cases hg:bgF r with
 |ok s=>rw[hg]at h;exact N2 b _ _ h
 |error x=>
  rw[hg]at h
  cases h
  unfold bgF at hg
  split at hg
  ·cases hg;decide
  ·split at hg
   ·cases hg;decide
   ·split at hg
    ·cases hg;decide
    ·cases hg
theorem Ij (p:Pt) (n:Int) (hc:cntF p≤1000000):∃c:Int,Ret 16 [partV p, .int .i64 n] [] (.int .i64 c,[]):=by
 obtain⟨t,ht⟩:=Ds p hc
 have hl:=rQ p
 exact⟨_,OT p n (by omega) hc ht⟩
theorem N4 (b s:Bs) (x:UInt8) (hb:b.length≤600) (hs:s.length≤200000) (hx:x=0→s=cX b (cF b)):
  ∃v e:V,Ret 9 [.lst 5 false (ofBytes b), .lst 5 false (ofBytes (fJ s))] [] (.tup [v,e],[])∧
   ((V.getI e≠0∧x≠0)∨(∃q:Pt,v=partV q∧V.getI e=0∧Ret 8 [.lst 5 false (ofBytes b),partV q] [] (.tup [.lst 5 false (ofBytes (fJ s)), .int .i64 0],[]))):=by
 have hsl:=nY s
 have hg:=P5 b (fJ s) (by omega) (by omega)
 obtain⟨h1,h2,h3,h4,h5,h6⟩:=kC b (by omega)
 have ho:x=0→zB b (fJ s)= .ok (cF b,[]):=fun q=>by
  have hp:=vO b b (by omega) (cF b) h1 h3 h4
  rw[if_pos ⟨rfl,rfl⟩]at hp
  rw[hx q]
  exact hp
 cases hp:zB b (fJ s)with
 |error e=>
  rw[hp]at hg ho
  have hx0:x≠0:=fun q=>by have:=ho q;cases this
  by_cases h0:e=0
  ·exact absurd h0 (N3 hp)
  ·exact⟨_,_,hg, .inl ⟨h0,hx0⟩⟩
 |ok q=>
  obtain⟨q,r⟩:=q
  rw[hp]at hg ho
  obtain⟨i1,i2,i3,i4,i5⟩:=NW hp
  obtain⟨c,hc⟩:=Ij q ((b.length:Nat):Int) (by omega)
  have hg:=hg c hc
  by_cases h0:c=0
  ·subst h0
   rw[if_pos rfl]at hg
   refine⟨_,_,hg, .inr ⟨q,rfl,rfl,?_⟩⟩
   have:=Sq b q (by omega) i3 (jJ (by omega) i5) (by omega) 0 hc
   rw[if_pos rfl,←i1]at this
   exact this
  ·refine⟨_,_,hg, .inl ⟨h0,fun q0=>?_⟩⟩
   have e:=ho q0
   cases e
   have h7:=Ex b (by omega)
   obtain⟨K1,k1⟩:=hc
   obtain⟨K2,k2⟩:=h7
   have e1:=k1 (K1+K2) (by omega)
   have e2:=k2 (K1+K2) (by omega)
   rw[e1]at e2
   cases e2
   exact h0 rfl
theorem TJ (b rec:Bs) (at_:Int) (ha:0≤at_∧at_<65536) (x:Int) (hx:0≤x∧x<256):Ret 5 [.lst 5 false (ofBytes b), .lst 5 false (ofBytes rec), .int .u16 at_, .int .u8 x] [] (.bool true,[]):=by
 obtain⟨c,rfl⟩:∃c:UInt8,x=((c.toNat:Nat):Int):=⟨Uo x.toNat,by simp;omega⟩
 obtain⟨i,rfl⟩:∃i:Nat,at_=((i:Nat):Int):=⟨at_.toNat,by omega⟩
 refine M5 (ofBytes b) (ofBytes rec) ((i:Nat):Int) ((c.toNat:Nat):Int) ?_
 simp only[T5]
 refine aB Ss ?_
 simp only[jI,UP,TL,if_false,aL]
 by_cases hb:b.length≤600
 ·by_cases hr:rec.length≤300
  ·have h1:¬(((b.length:Nat):Int)>600):=by omega
   have h2:¬(((rec.length:Nat):Int)>300):=by omega
   simp only[h1,h2,decide_false,if_true,aY,TL,if_false]
   refine aB (rV b (by omega)) ?_
   simp only[fC,Uc,Um,dF,cU]
   refine aB (zG b (by omega)) ?_
   have hl:=vP b (by omega)
   have z:((0:Int) != 0)=false:=rfl
   have h3:¬(((gC b).length:Int)<4):=by omega
   simp only[fC,Uc,Um,dF,bM,z,if_true,aL,h3,decide_false,aY,TL,if_false]
   have hF:(gC b).length=(cX b (cF b)).length+4:=nY _
   have w1:TK .i64 (((gC b).length:Int) - 4)=(((cX b (cF b)).length:Nat):Int):=by rw[wrap64 (by omega) (by omega)];omega
   have e0:Wb (TO (0:Int)) (Wp (cX b (cF b)).length (ofBytes (gC b)))=ofBytes (cX b (cF b)):=by
    show Wb 0 _=_
    rw[U7]
    have:gC b=cX b (cF b)++le4 (eB (cX b (cF b))).toNat:=rfl
    rw[this]
    simp[ofBytes]
   generalize hFd:cX b (cF b)=F at*
   have g1:(0:Int)≤((F.length:Nat):Int):=by omega
   have g2:((F.length:Nat):Int)≤(((gC b).length:Nat):Int):=by omega
   have ap:cE [] (ofBytes F) 2=true:=gB (by rw[aL];simp only[Uh];omega)
   have g3:(((F.length:Nat):Int) != 0)=true:=by
    have:¬((F.length:Nat):Int)=0:=by omega
    simpa using this
   have w2:TK .i64 ((i:Nat):Int)=((i:Nat):Int):=wrap64 (by omega) (by omega)
   have w3:Vn ((i:Nat):Int) ((F.length:Nat):Int)=((i % F.length:Nat):Int):=by
    rw[VQ (by omega)];omega
   have hi:i % F.length<F.length:=Nat.mod_lt _ (by omega)
   have g4:(0:Int)≤((i % F.length:Nat):Int):=by omega
   have g5:((i % F.length:Nat):Int)<((F.length:Nat):Int):=by omega
   have e1:V.getI (Ul (ofBytes F) (i % F.length) .bot)=(((F[i % F.length]).toNat:Nat):Int):=by
    simp[ofBytes,Ul,hi,V.getI]
   have e2:bytesOf (List.set (ofBytes F) (i % F.length) (.int .u8 ((((F[i % F.length]) ^^^ c).toNat:Nat):Int)))=F.set (i % F.length) ((F[i % F.length]) ^^^ c):=by
    have:List.set (ofBytes F) (i % F.length) (.int .u8 ((((F[i % F.length]) ^^^ c).toNat:Nat):Int))=ofBytes (F.set (i % F.length) ((F[i % F.length]) ^^^ c)):=by
     simp[ofBytes,List.map_set]
    rw[this,cD]
   simp only[w1,e0,UV,aI g1,aI g2,aI (VJ 0),cZ ap,aL,cZ g3,w2,w3,aI g4,aI g5,TW,e1,TI,e2]
   have hsl:(F.set (i % F.length) ((F[i % F.length]) ^^^ c)).length≤200000:=by rw[Ws];omega
   have hsx:c=0→F.set (i % F.length) ((F[i % F.length]) ^^^ c)=cX b (cF b):=fun q=>by
    rw[q,hFd];simp
   generalize F.set (i % F.length) ((F[i % F.length]) ^^^ c)=s at*
   refine aB (Sg s (by omega)) ?_
   simp only[vG]
   obtain⟨v,e,hget,h⟩:=N4 b s c hb hsl hsx
   refine aB hget ?_
   simp only[fC,Uc,Um]
   rcases h with⟨k1,k2⟩|⟨q,rfl,k1,k2⟩
   ·have z1:(V.getI e != 0)=true:=by simpa using k1
    have z2:((((c.toNat:Nat):Int)) != 0)=true:=by
     have:¬(((c.toNat:Nat):Int))=0:=fun h=>k2 (Wc.1 (by simpa using h))
     simpa using this
    simp only[z1,if_true,z2]
    exact aD _
   ·have z1:(V.getI e != 0)=false:=by rw[k1];rfl
    have z0:((0:Int)==0)=true:=rfl
    have zs:∀s:Bs,sEq s s=true:=fun s=>by unfold sEq;simp
    simp only[z1,TL,if_false,cU]
    refine aB k2 ?_
    simp only[fC,Uc,Um,dF,bM,z0,if_true,cD,zs]
    exact aD _
  ·have h1:¬(((b.length:Nat):Int)>600):=by omega
   have h2:(((rec.length:Nat):Int)>300):=by omega
   simp only[h1,h2,decide_false,decide_true,if_true,aY]
   exact aD _
 ·have h1:(((b.length:Nat):Int)>600):=by omega
  simp only[h1,decide_true,VY,if_false,aY,if_true]
  exact aD _
end Go.Proofs.YtgpofjbdjiajeaaGreatDoor
end
