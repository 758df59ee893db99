/- Lemmas for the claim, merged: the plain reading of the program's functions, its soundness, and what they compute. -/
import Derived.Test.YtgpofjbdjiajeaaGreatDoorPkE
import Derived.KernelRfl
open List renaming append_assoc→Ud,append_nil→UI,cons_append→UA,drop→Wb,drop_eq_getElem_cons→UM,drop_eq_nil_of_le→UB,drop_zero→U7,foldl_cons→V9,getD→Ul,getElem?_eq_some_iff→TQ,getElem_mem→U3,headD→UL,headD_cons→Uc,length→US,length_append→Ug,length_cons→Ua,length_drop→Uv,length_map→Ui,length_nil→Uh,length_pos_iff→U6,length_take→Vo,map_append→V0,map_cons→UE,map_nil→VL,map_take→Wm,mem_append→TV,mem_cons→UH,mem_of_getElem?→Uu,mem_or_eq_of_mem_set→V8,nil_append→UV,replicate→TZ,singleton_append→Vt,tail→Uf,tail_cons→Um,take→Wp
open Int renaming fdiv→V3,le_refl→VJ,tdiv→Wn,tdiv_eq_ediv_of_nonneg→V7,tmod→Vn,tmod_eq_emod_of_nonneg→VQ,toNat→TO,toNat_natCast→TW,toNat_zero→VP
open Nat renaming add_assoc→Vf,add_mul→Vh,eq_zero_or_pos→VH,le_of_not_lt→UZ,le_refl→TY,le_trans→Uy,lt_of_lt_of_le→Up,lt_or_ge→VM,mod_eq_of_lt→Vz,mul_comm→VN,mul_le_mul_right→Vi,pow_succ→Wu,shiftRight_eq_div_pow→VV,zero_add→UD
open Bool renaming false_eq_true→TL,false_or→VF,not_false→UJ,not_true→UP,true_eq_false→VY
open Option renaming bind→TN,getD_some→Vg,isNone_none→U5,isNone_some→UW,or→Wz
open UInt8 renaming ofNat→Uo,toNat→UU,toNat_inj→Wc,toNat_ofNat'→Vm
open Go.IntKind renaming bits→Uz,i64→TM,max→Wy,signed→Wv,u32→Uk,u64→Wx,u8→UT,wrap→TK
set_option linter.all false
set_option linter.unusedVariables false
set_option linter.unusedSimpArgs false
section
namespace Go.Proofs.YtgpofjbdjiajeaaGreatDoor
open Go.Ev Go
open List (headD tail getD length drop take)
open V (getI getL getT getS getB)
set_option maxRecDepth 100000
variable (call : FuncId → Fun) (icall : aN (V × List Ob)) (again : List It → St → Option (V × List Ob))
def T35 (call:FuncId→Fun) (a0:List V) (a1:Int) (a2:List V) (a3:Bool):Option (V×List Ob):=
 TN (call 61 [(V.lst 5 false a0),(V.lst 133 false a2),(V.str [99,111,110,116,101,110,116,45,116,121,112,101])] []) fun z0=>
 TN (call 60 [(V.str (getS z0.1)),(V.bool true)] []) fun z1=>
 if(getB (headD (tail (getT z1.1)) V.bot))=true then
 some ((V.agg [(V.str (getS (headD (V.cells (headD (getT z1.1) V.bot)) V.bot))),(V.str (getS (headD (tail (V.cells (headD (getT z1.1) V.bot))) V.bot))),(V.lst 140 false (getL (headD (tail (tail (V.cells (headD (getT z1.1) V.bot)))) V.bot)))]),[(Ob.cells [(V.lst 5 false a0),(V.int .i64 a1)])])
 else
 if a3=true then
 some ((V.agg [(V.str [109,101,115,115,97,103,101]),(V.str [114,102,99,56,50,50]),(V.lst 140 false [])]),[(Ob.cells [(V.lst 5 false a0),(V.int .i64 a1)])])
 else
 some ((V.agg [(V.str [116,101,120,116]),(V.str [112,108,97,105,110]),(V.lst 140 false [])]),[(Ob.cells [(V.lst 5 false a0),(V.int .i64 a1)])])
def O35 (a0:List V) (a1:Int):List Ob:=[Ob.cells [V.lst 5 false a0,V.int TM a1]]
def A35 (a2:List V) (a3:Bool):List V:=[V.ref 0 0,V.lst 133 false a2,V.bool a3]
theorem E35 (a0:List V) (a1:Int) (a2:List V) (a3:Bool):GO 35 Tryz.f35 (A35 a2 a3) (O35 a0 a1) call icall again=T35 call a0 a1 a2 a3:=by kernel_rfl
theorem C35 (k:Nat) (a0:List V) (a1:Int) (a2:List V) (a3:Bool):aA cfg (k+1) 35 (A35 a2 a3) (O35 a0 a1)=T35 (aA cfg k) a0 a1 a2 a3:=
 (show aA cfg (k+1) 35 (A35 a2 a3) (O35 a0 a1)=GO 35 Tryz.f35 (A35 a2 a3) (O35 a0 a1) (aA cfg k) (aF cfg (aA cfg k) 20) (RN 35 Tryz.f35 (O35 a0 a1) (aA cfg k) (aF cfg (aA cfg k) 20) k)by kernel_rfl).trans (E35 _ _ _ a0 a1 a2 a3)
theorem M35 (a0:List V) (a1:Int) (a2:List V) (a3:Bool) {r:V×List Ob} (h:Evt (fun k n=>T35 (aA cfg k) a0 a1 a2 a3) r):Ret 35 [V.ref 0 0,V.lst 133 false a2,V.bool a3] [Ob.cells [V.lst 5 false a0,V.int TM a1]] r:=aR (g:=fun k n=>T35 (aA cfg k) a0 a1 a2 a3) (fun k=>C35 k a0 a1 a2 a3) h
def Ge (call:FuncId→Fun) (ag0:List UInt8→List V→Int→List V→Int→Int→List V→Int→Int→Int→Int→Int→Int→Int→Option (V×List Ob)) (s0:List UInt8) (l1:List V) (i2:Int) (l3:List V) (i4:Int) (i5:Int) (l6:List V) (i7:Int) (i8:Int) (i9:Int) (i10:Int) (i11:Int) (i12:Int) (i13:Int):Option (V×List Ob):=
 if(decide (i5<i4))=true then
 chk (decide (0≤i5)) (chk (decide (i5<((length l3:Nat):Int))) (TN (call 57 [(V.lst 5 false l6),(V.agg [(V.int .i64 (getI (headD (V.cells (getD l3 (TO i5) V.bot)) V.bot))),(V.int .i64 (getI (headD (tail (V.cells (getD l3 (TO i5) V.bot))) V.bot))),(V.int .i64 (getI (headD (tail (tail (V.cells (getD l3 (TO i5) V.bot)))) V.bot)))])] []) fun z0=>
 TN (call 63 [(V.str (getS z0.1)),(V.str s0)] []) fun z1=>
 if(!(getB (headD (getT z1.1) V.bot)))=true then
 (ag0 (s0) (l1) ((getI (headD (tail (V.cells (getD l3 (TO i5) V.bot))) V.bot))) (l3) (i4) ((TK .i64 (i5+(1:Int)))) (l6) (i7) (i8) (i9) (i10) (i11) (i12) (i13))
 else
 if(getB (headD (tail (getT z1.1)) V.bot))=true then
 some ((V.tup [(V.lst 27 false l1),(V.agg [(V.int .i64 i2),(V.int .i64 (getI (headD (tail (tail (V.cells (getD l3 (TO i5) V.bot)))) V.bot)))]),(V.bool (decide (((length l1:Nat):Int)>(0:Int))))]),[(Ob.cells [(V.lst 5 false l6),(V.int .i64 i7)])])
 else
 chk (cE l1 [(V.agg [(V.int .i64 i2),(V.int .i64 (getI (headD (tail (tail (V.cells (getD l3 (TO i5) V.bot)))) V.bot)))])] 17) ((ag0 (s0) ((l1++[(V.agg [(V.int .i64 i2),(V.int .i64 (getI (headD (tail (tail (V.cells (getD l3 (TO i5) V.bot)))) V.bot)))])])) ((getI (headD (tail (tail (V.cells (getD l3 (TO i5) V.bot)))) V.bot))) (l3) (i4) ((TK .i64 (i5+(1:Int)))) (l6) (i7) (i8) (i9) (i10) (i11) (i12) (i13)))))
 else
 some ((V.tup [(V.lst 27 false l1),(V.agg [(V.int .i64 i12),(V.int .i64 i13)]),(V.bool (decide (((length l1:Nat):Int)>(0:Int))))]),[(Ob.cells [(V.lst 5 false l6),(V.int .i64 i7)])])
def T37 (call:FuncId→Fun) (ag0:List UInt8→List V→Int→List V→Int→Int→List V→Int→Int→Int→Int→Int→Int→Int→Option (V×List Ob)) (a0:List V) (a1:Int) (a2:Int) (a3:Int) (a4:List UInt8):Option (V×List Ob):=
 TN (call 55 [(V.lst 5 false a0),(V.agg [(V.int .i64 a2),(V.int .i64 a3)])] []) fun z0=>
 (ag0 (a4) ([]) (a2) ((getL z0.1)) (((length (getL z0.1):Nat):Int)) ((0:Int)) (a0) (a1) (a2) (a3) ((0:Int)) ((0:Int)) (a3) (a3))
def O37 (a0:List V) (a1:Int):List Ob:=[Ob.cells [V.lst 5 false a0,V.int TM a1]]
def A37 (a2:Int) (a3:Int) (a4:List UInt8):List V:=[V.ref 0 0,V.agg [V.int TM a2,V.int TM a3],V.str a4]
def CX (s0:List UInt8) (l1:List V) (i2:Int) (l3:List V) (i4:Int) (i5:Int) (l6:List V) (i7:Int) (i8:Int) (i9:Int) (i10:Int) (i11:Int) (i12:Int) (i13:Int):St:=⟨[(V.ref 0 0),V.bot,(V.str s0),V.bot,V.bot,V.bot,V.bot,(V.ref 2 0),V.bot,(V.lst 27 true l1),(V.ref 3 0),(V.int TM i2),V.bot,V.bot,V.bot,V.bot,V.bot,V.bot,V.bot,V.bot,V.bot,V.bot,V.bot,V.bot,V.bot,V.bot,V.bot,V.bot,V.bot,(V.lst 128 false l3),(V.int TM i4),(V.int TM i5)]++TZ 42 V.bot,[(Ob.cells [(V.lst 5 false l6),(V.int TM i7)]),(Ob.cells [(V.int TM i8),(V.int TM i9)]),(Ob.cells [(V.int TM i10),(V.int TM i11)]),(Ob.cells [(V.int TM i12),(V.int TM i13)])]⟩
theorem Rz (a0:List V) (a1:Int) (s0:List UInt8) (l1:List V) (i2:Int) (l3:List V) (i4:Int) (i5:Int) (l6:List V) (i7:Int) (i8:Int) (i9:Int) (i10:Int) (i11:Int) (i12:Int) (i13:Int):
 RM 37 Tryz.f37 (O37 a0 a1) call icall again (aJ Tryz.f37 0) (CX s0 l1 i2 l3 i4 i5 l6 i7 i8 i9 i10 i11 i12 i13)=Ge call (fun s0 l1 i2 l3 i4 i5 l6 i7 i8 i9 i10 i11 i12 i13=>again (aJ Tryz.f37 0) (CX s0 l1 i2 l3 i4 i5 l6 i7 i8 i9 i10 i11 i12 i13)) s0 l1 i2 l3 i4 i5 l6 i7 i8 i9 i10 i11 i12 i13:=by kernel_rfl
theorem E37 (a0:List V) (a1:Int) (a2:Int) (a3:Int) (a4:List UInt8):GO 37 Tryz.f37 (A37 a2 a3 a4) (O37 a0 a1) call icall again=T37 call (fun s0 l1 i2 l3 i4 i5 l6 i7 i8 i9 i10 i11 i12 i13=>again (aJ Tryz.f37 0) (CX s0 l1 i2 l3 i4 i5 l6 i7 i8 i9 i10 i11 i12 i13)) a0 a1 a2 a3 a4:=by kernel_rfl
def L37 (call:FuncId→Fun):Nat→(List UInt8→List V→Int→List V→Int→Int→List V→Int→Int→Int→Int→Int→Int→Int→Option (V×List Ob))
 |0=>fun _ _ _ _ _ _ _ _ _ _ _ _ _ _=>none
 |n+1=>Ge call (L37 call n)
theorem R37 (call:FuncId→Fun) (icall:aN (V×List Ob)) (a0:List V) (a1:Int):∀n,(∀(s0:List UInt8) (l1:List V) (i2:Int) (l3:List V) (i4:Int) (i5:Int) (l6:List V) (i7:Int) (i8:Int) (i9:Int) (i10:Int) (i11:Int) (i12:Int) (i13:Int),RN 37 Tryz.f37 (O37 a0 a1) call icall n (aJ Tryz.f37 0) (CX s0 l1 i2 l3 i4 i5 l6 i7 i8 i9 i10 i11 i12 i13)=(L37 call n) s0 l1 i2 l3 i4 i5 l6 i7 i8 i9 i10 i11 i12 i13)
 |0=>fun s0 l1 i2 l3 i4 i5 l6 i7 i8 i9 i10 i11 i12 i13=>rfl
 |n+1=>by
  have ih:=R37 call icall a0 a1 n
  exact fun s0 l1 i2 l3 i4 i5 l6 i7 i8 i9 i10 i11 i12 i13=>(Rz call icall (RN 37 Tryz.f37 (O37 a0 a1) call icall n) a0 a1 s0 l1 i2 l3 i4 i5 l6 i7 i8 i9 i10 i11 i12 i13).trans (by rw[show(fun s0 l1 i2 l3 i4 i5 l6 i7 i8 i9 i10 i11 i12 i13=>RN 37 Tryz.f37 (O37 a0 a1) call icall n (aJ Tryz.f37 0) (CX s0 l1 i2 l3 i4 i5 l6 i7 i8 i9 i10 i11 i12 i13))=(L37 call n)from(funext fun s0=>funext fun l1=>funext fun i2=>funext fun l3=>funext fun i4=>funext fun i5=>funext fun l6=>funext fun i7=>funext fun i8=>funext fun i9=>funext fun i10=>funext fun i11=>funext fun i12=>funext fun i13=>ih s0 l1 i2 l3 i4 i5 l6 i7 i8 i9 i10 i11 i12 i13)];rfl)
theorem C37 (k:Nat) (a0:List V) (a1:Int) (a2:Int) (a3:Int) (a4:List UInt8):aA cfg (k+1) 37 (A37 a2 a3 a4) (O37 a0 a1)=T37 (aA cfg k) (L37 (aA cfg k) k) a0 a1 a2 a3 a4:=by
 have ih:=R37 (aA cfg k) (aF cfg (aA cfg k) 20) a0 a1 k
 refine(show aA cfg (k+1) 37 (A37 a2 a3 a4) (O37 a0 a1)=GO 37 Tryz.f37 (A37 a2 a3 a4) (O37 a0 a1) (aA cfg k) (aF cfg (aA cfg k) 20) (RN 37 Tryz.f37 (O37 a0 a1) (aA cfg k) (aF cfg (aA cfg k) 20) k)by kernel_rfl).trans ((E37 _ _ _ a0 a1 a2 a3 a4).trans ?_)
 rw[show(fun s0 l1 i2 l3 i4 i5 l6 i7 i8 i9 i10 i11 i12 i13=>RN 37 Tryz.f37 (O37 a0 a1) (aA cfg k) (aF cfg (aA cfg k) 20) k (aJ Tryz.f37 0) (CX s0 l1 i2 l3 i4 i5 l6 i7 i8 i9 i10 i11 i12 i13))=(L37 (aA cfg k) k)from(funext fun s0=>funext fun l1=>funext fun i2=>funext fun l3=>funext fun i4=>funext fun i5=>funext fun l6=>funext fun i7=>funext fun i8=>funext fun i9=>funext fun i10=>funext fun i11=>funext fun i12=>funext fun i13=>ih s0 l1 i2 l3 i4 i5 l6 i7 i8 i9 i10 i11 i12 i13)]
theorem M37 (a0:List V) (a1:Int) (a2:Int) (a3:Int) (a4:List UInt8) {r:V×List Ob} (h:Evt (fun k n=>T37 (aA cfg k) (L37 (aA cfg k) n) a0 a1 a2 a3 a4) r):Ret 37 [V.ref 0 0,V.agg [V.int TM a2,V.int TM a3],V.str a4] [Ob.cells [V.lst 5 false a0,V.int TM a1]] r:=aR (g:=fun k n=>T37 (aA cfg k) (L37 (aA cfg k) n) a0 a1 a2 a3 a4) (fun k=>C37 k a0 a1 a2 a3 a4) h
theorem OD (s0:List UInt8) (l1:List V) (i2:Int) (l3:List V) (i4:Int) (i5:Int) (l6:List V) (i7:Int) (i8:Int) (i9:Int) (i10:Int) (i11:Int) (i12:Int) (i13:Int) {r:V×List Ob} (h:Evt (fun k n=>Ge (aA cfg k) (L37 (aA cfg k) n) s0 l1 i2 l3 i4 i5 l6 i7 i8 i9 i10 i11 i12 i13) r):Evt (fun k n=>(L37 (aA cfg k) n) s0 l1 i2 l3 i4 i5 l6 i7 i8 i9 i10 i11 i12 i13) r:=aX (fun k n=>rfl) h
def CY (call:FuncId→Fun) (ag0:Int→Bool→List V→Int→Int→List V→Int→Int→Int→Int→Int→Int→List V→List V→Int→Int→Option (V×List Ob)) (i0:Int) (b1:Bool) (l2:List V) (i3:Int) (i4:Int) (l5:List V) (i6:Int) (i7:Int) (i8:Int) (i9:Int) (i10:Int) (i11:Int) (l12:List V) (l13:List V) (i14:Int) (i15:Int):Option (V×List Ob):=
 if(decide (i4<i3))=true then
 chk (decide (0≤i4)) (chk (decide (i4<((length l2:Nat):Int))) (if(decide ((TK .i64 (i4+(1:Int)))<((length l13:Nat):Int)))=true then
 chk (decide (0≤(TK .i64 (i4+(1:Int))))) (chk (decide ((TK .i64 (i4+(1:Int)))<((length l13:Nat):Int))) (TN (call 15 [(V.ref 0 0),(V.agg [(V.int .i64 (getI (headD (tail (V.cells (getD l2 (TO i4) V.bot))) V.bot))),(V.int .i64 (if(getI (headD (tail (V.cells (getD l2 (TO i4) V.bot))) V.bot))>(getI (headD (V.cells (getD l13 (TO (TK .i64 (i4+(1:Int)))) V.bot)) V.bot))then(getI (headD (tail (V.cells (getD l2 (TO i4) V.bot))) V.bot))else(getI (headD (V.cells (getD l13 (TO (TK .i64 (i4+(1:Int)))) V.bot)) V.bot))))]),(V.int .i64 i0),(V.bool b1)] [(Ob.cells [(V.lst 5 false l5),(V.int .i64 i6)])]) fun z0=>
 chk (((length l12:Nat):Int)==((length l12:Nat):Int)) (chk (cE l12 [(V.agg [(V.int .i64 (getI (headD (V.cells z0.1) V.bot))),(V.int .i64 (getI (headD (tail (V.cells z0.1)) V.bot))),(V.int .i64 (getI (headD (tail (tail (V.cells z0.1))) V.bot))),(V.int .i64 (getI (headD (tail (tail (tail (V.cells z0.1)))) V.bot))),(V.int .i64 (getI (headD (tail (tail (tail (tail (V.cells z0.1))))) V.bot))),(V.lst 31 false (getL (headD (tail (tail (tail (tail (tail (V.cells z0.1)))))) V.bot))),(V.lst 27 false (getL (headD (tail (tail (tail (tail (tail (tail (V.cells z0.1))))))) V.bot))),(V.int .i64 (getI (headD (tail (tail (tail (tail (tail (tail (tail (V.cells z0.1)))))))) V.bot))),(V.int .i64 (getI (headD (tail (tail (tail (tail (tail (tail (tail (tail (V.cells z0.1))))))))) V.bot)))])] 105) ((ag0 (i0) (b1) (l2) (i3) ((TK .i64 (i4+(1:Int)))) ((getL (headD (Ob.getC (headD z0.2 Ob.dead)) V.bot))) ((getI (headD (tail (Ob.getC (headD z0.2 Ob.dead))) V.bot))) (i7) (i8) (i9) (i10) (i11) ((l12++[(V.agg [(V.int .i64 (getI (headD (V.cells z0.1) V.bot))),(V.int .i64 (getI (headD (tail (V.cells z0.1)) V.bot))),(V.int .i64 (getI (headD (tail (tail (V.cells z0.1))) V.bot))),(V.int .i64 (getI (headD (tail (tail (tail (V.cells z0.1)))) V.bot))),(V.int .i64 (getI (headD (tail (tail (tail (tail (V.cells z0.1))))) V.bot))),(V.lst 31 false (getL (headD (tail (tail (tail (tail (tail (V.cells z0.1)))))) V.bot))),(V.lst 27 false (getL (headD (tail (tail (tail (tail (tail (tail (V.cells z0.1))))))) V.bot))),(V.int .i64 (getI (headD (tail (tail (tail (tail (tail (tail (tail (V.cells z0.1)))))))) V.bot))),(V.int .i64 (getI (headD (tail (tail (tail (tail (tail (tail (tail (tail (V.cells z0.1))))))))) V.bot)))])])) (l13) (i14) (i15))))))
 else
 TN (call 15 [(V.ref 0 0),(V.agg [(V.int .i64 (getI (headD (tail (V.cells (getD l2 (TO i4) V.bot))) V.bot))),(V.int .i64 (if(getI (headD (tail (V.cells (getD l2 (TO i4) V.bot))) V.bot))>i14 then(getI (headD (tail (V.cells (getD l2 (TO i4) V.bot))) V.bot))else i14))]),(V.int .i64 i0),(V.bool b1)] [(Ob.cells [(V.lst 5 false l5),(V.int .i64 i6)])]) fun z0=>
 chk (((length l12:Nat):Int)==((length l12:Nat):Int)) (chk (cE l12 [(V.agg [(V.int .i64 (getI (headD (V.cells z0.1) V.bot))),(V.int .i64 (getI (headD (tail (V.cells z0.1)) V.bot))),(V.int .i64 (getI (headD (tail (tail (V.cells z0.1))) V.bot))),(V.int .i64 (getI (headD (tail (tail (tail (V.cells z0.1)))) V.bot))),(V.int .i64 (getI (headD (tail (tail (tail (tail (V.cells z0.1))))) V.bot))),(V.lst 31 false (getL (headD (tail (tail (tail (tail (tail (V.cells z0.1)))))) V.bot))),(V.lst 27 false (getL (headD (tail (tail (tail (tail (tail (tail (V.cells z0.1))))))) V.bot))),(V.int .i64 (getI (headD (tail (tail (tail (tail (tail (tail (tail (V.cells z0.1)))))))) V.bot))),(V.int .i64 (getI (headD (tail (tail (tail (tail (tail (tail (tail (tail (V.cells z0.1))))))))) V.bot)))])] 105) ((ag0 (i0) (b1) (l2) (i3) ((TK .i64 (i4+(1:Int)))) ((getL (headD (Ob.getC (headD z0.2 Ob.dead)) V.bot))) ((getI (headD (tail (Ob.getC (headD z0.2 Ob.dead))) V.bot))) (i7) (i8) (i9) (i10) (i11) ((l12++[(V.agg [(V.int .i64 (getI (headD (V.cells z0.1) V.bot))),(V.int .i64 (getI (headD (tail (V.cells z0.1)) V.bot))),(V.int .i64 (getI (headD (tail (tail (V.cells z0.1))) V.bot))),(V.int .i64 (getI (headD (tail (tail (tail (V.cells z0.1)))) V.bot))),(V.int .i64 (getI (headD (tail (tail (tail (tail (V.cells z0.1))))) V.bot))),(V.lst 31 false (getL (headD (tail (tail (tail (tail (tail (V.cells z0.1)))))) V.bot))),(V.lst 27 false (getL (headD (tail (tail (tail (tail (tail (tail (V.cells z0.1))))))) V.bot))),(V.int .i64 (getI (headD (tail (tail (tail (tail (tail (tail (tail (V.cells z0.1)))))))) V.bot))),(V.int .i64 (getI (headD (tail (tail (tail (tail (tail (tail (tail (tail (V.cells z0.1))))))))) V.bot)))])])) (l13) (i14) (i15))))))
 else
 some ((V.tup []),[(Ob.cells [(V.lst 5 false l5),(V.int .i64 i6)]),(Ob.cells [(V.int .i64 i7),(V.int .i64 i8),(V.int .i64 i9),(V.int .i64 i10),(V.int .i64 i11),(V.lst 31 true l12),(V.lst 27 false l13),(V.int .i64 i14),(V.int .i64 i15)])])
def T38 (call:FuncId→Fun) (ag0:Int→Bool→List V→Int→Int→List V→Int→Int→Int→Int→Int→Int→List V→List V→Int→Int→Option (V×List Ob)) (a0:List V) (a1:Int) (a2:Int) (a3:Int) (a4:Int) (a5:Int) (a6:Int) (a7:List V) (a8:List V) (a9:Int) (a10:Int) (a11:Int) (a12:Bool):Option (V×List Ob):=
 (ag0 (a11) (a12) (a8) (((length a8:Nat):Int)) ((0:Int)) (a0) (a1) (a2) (a3) (a4) (a5) (a6) (a7) (a8) (a9) (a10))
def O38 (a0:List V) (a1:Int) (a2:Int) (a3:Int) (a4:Int) (a5:Int) (a6:Int) (a7:List V) (a8:List V) (a9:Int) (a10:Int):List Ob:=[Ob.cells [V.lst 5 false a0,V.int TM a1],Ob.cells [V.int TM a2,V.int TM a3,V.int TM a4,V.int TM a5,V.int TM a6,V.lst 31 true a7,V.lst 27 false a8,V.int TM a9,V.int TM a10]]
def A38 (a11:Int) (a12:Bool):List V:=[V.ref 0 0,V.ref 1 0,V.int TM a11,V.bool a12]
def CZ (i0:Int) (b1:Bool) (l2:List V) (i3:Int) (i4:Int) (l5:List V) (i6:Int) (i7:Int) (i8:Int) (i9:Int) (i10:Int) (i11:Int) (l12:List V) (l13:List V) (i14:Int) (i15:Int):St:=⟨[(V.ref 0 0),(V.ref 1 0),(V.int TM i0),(V.bool b1),V.bot,V.bot,V.bot,V.bot,V.bot,V.bot,V.bot,V.bot,V.bot,V.bot,(V.lst 27 false l2),(V.int TM i3),(V.int TM i4)]++TZ 48 V.bot,[(Ob.cells [(V.lst 5 false l5),(V.int TM i6)]),(Ob.cells [(V.int TM i7),(V.int TM i8),(V.int TM i9),(V.int TM i10),(V.int TM i11),(V.lst 31 true l12),(V.lst 27 false l13),(V.int TM i14),(V.int TM i15)])]⟩
theorem RA (a0:List V) (a1:Int) (a2:Int) (a3:Int) (a4:Int) (a5:Int) (a6:Int) (a7:List V) (a8:List V) (a9:Int) (a10:Int) (i0:Int) (b1:Bool) (l2:List V) (i3:Int) (i4:Int) (l5:List V) (i6:Int) (i7:Int) (i8:Int) (i9:Int) (i10:Int) (i11:Int) (l12:List V) (l13:List V) (i14:Int) (i15:Int):
 RM 38 Tryz.f38 (O38 a0 a1 a2 a3 a4 a5 a6 a7 a8 a9 a10) call icall again (aJ Tryz.f38 0) (CZ i0 b1 l2 i3 i4 l5 i6 i7 i8 i9 i10 i11 l12 l13 i14 i15)=CY call (fun i0 b1 l2 i3 i4 l5 i6 i7 i8 i9 i10 i11 l12 l13 i14 i15=>again (aJ Tryz.f38 0) (CZ i0 b1 l2 i3 i4 l5 i6 i7 i8 i9 i10 i11 l12 l13 i14 i15)) i0 b1 l2 i3 i4 l5 i6 i7 i8 i9 i10 i11 l12 l13 i14 i15:=by kernel_rfl
theorem E38 (a0:List V) (a1:Int) (a2:Int) (a3:Int) (a4:Int) (a5:Int) (a6:Int) (a7:List V) (a8:List V) (a9:Int) (a10:Int) (a11:Int) (a12:Bool):GO 38 Tryz.f38 (A38 a11 a12) (O38 a0 a1 a2 a3 a4 a5 a6 a7 a8 a9 a10) call icall again=T38 call (fun i0 b1 l2 i3 i4 l5 i6 i7 i8 i9 i10 i11 l12 l13 i14 i15=>again (aJ Tryz.f38 0) (CZ i0 b1 l2 i3 i4 l5 i6 i7 i8 i9 i10 i11 l12 l13 i14 i15)) a0 a1 a2 a3 a4 a5 a6 a7 a8 a9 a10 a11 a12:=by kernel_rfl
def L38 (call:FuncId→Fun):Nat→(Int→Bool→List V→Int→Int→List V→Int→Int→Int→Int→Int→Int→List V→List V→Int→Int→Option (V×List Ob))
 |0=>fun _ _ _ _ _ _ _ _ _ _ _ _ _ _ _ _=>none
 |n+1=>CY call (L38 call n)
theorem R38 (call:FuncId→Fun) (icall:aN (V×List Ob)) (a0:List V) (a1:Int) (a2:Int) (a3:Int) (a4:Int) (a5:Int) (a6:Int) (a7:List V) (a8:List V) (a9:Int) (a10:Int):∀n,(∀(i0:Int) (b1:Bool) (l2:List V) (i3:Int) (i4:Int) (l5:List V) (i6:Int) (i7:Int) (i8:Int) (i9:Int) (i10:Int) (i11:Int) (l12:List V) (l13:List V) (i14:Int) (i15:Int),RN 38 Tryz.f38 (O38 a0 a1 a2 a3 a4 a5 a6 a7 a8 a9 a10) call icall n (aJ Tryz.f38 0) (CZ i0 b1 l2 i3 i4 l5 i6 i7 i8 i9 i10 i11 l12 l13 i14 i15)=(L38 call n) i0 b1 l2 i3 i4 l5 i6 i7 i8 i9 i10 i11 l12 l13 i14 i15)
 |0=>fun i0 b1 l2 i3 i4 l5 i6 i7 i8 i9 i10 i11 l12 l13 i14 i15=>rfl
 |n+1=>by
  have ih:=R38 call icall a0 a1 a2 a3 a4 a5 a6 a7 a8 a9 a10 n
  exact fun i0 b1 l2 i3 i4 l5 i6 i7 i8 i9 i10 i11 l12 l13 i14 i15=>(RA call icall (RN 38 Tryz.f38 (O38 a0 a1 a2 a3 a4 a5 a6 a7 a8 a9 a10) call icall n) a0 a1 a2 a3 a4 a5 a6 a7 a8 a9 a10 i0 b1 l2 i3 i4 l5 i6 i7 i8 i9 i10 i11 l12 l13 i14 i15).trans (by rw[show(fun i0 b1 l2 i3 i4 l5 i6 i7 i8 i9 i10 i11 l12 l13 i14 i15=>RN 38 Tryz.f38 (O38 a0 a1 a2 a3 a4 a5 a6 a7 a8 a9 a10) call icall n (aJ Tryz.f38 0) (CZ i0 b1 l2 i3 i4 l5 i6 i7 i8 i9 i10 i11 l12 l13 i14 i15))=(L38 call n)from(funext fun i0=>funext fun b1=>funext fun l2=>funext fun i3=>funext fun i4=>funext fun l5=>funext fun i6=>funext fun i7=>funext fun i8=>funext fun i9=>funext fun i10=>funext fun i11=>funext fun l12=>funext fun l13=>funext fun i14=>funext fun i15=>ih i0 b1 l2 i3 i4 l5 i6 i7 i8 i9 i10 i11 l12 l13 i14 i15)];rfl)
theorem C38 (k:Nat) (a0:List V) (a1:Int) (a2:Int) (a3:Int) (a4:Int) (a5:Int) (a6:Int) (a7:List V) (a8:List V) (a9:Int) (a10:Int) (a11:Int) (a12:Bool):aA cfg (k+1) 38 (A38 a11 a12) (O38 a0 a1 a2 a3 a4 a5 a6 a7 a8 a9 a10)=T38 (aA cfg k) (L38 (aA cfg k) k) a0 a1 a2 a3 a4 a5 a6 a7 a8 a9 a10 a11 a12:=by
 have ih:=R38 (aA cfg k) (aF cfg (aA cfg k) 20) a0 a1 a2 a3 a4 a5 a6 a7 a8 a9 a10 k
 refine(show aA cfg (k+1) 38 (A38 a11 a12) (O38 a0 a1 a2 a3 a4 a5 a6 a7 a8 a9 a10)=GO 38 Tryz.f38 (A38 a11 a12) (O38 a0 a1 a2 a3 a4 a5 a6 a7 a8 a9 a10) (aA cfg k) (aF cfg (aA cfg k) 20) (RN 38 Tryz.f38 (O38 a0 a1 a2 a3 a4 a5 a6 a7 a8 a9 a10) (aA cfg k) (aF cfg (aA cfg k) 20) k)by kernel_rfl).trans ((E38 _ _ _ a0 a1 a2 a3 a4 a5 a6 a7 a8 a9 a10 a11 a12).trans ?_)
 rw[show(fun i0 b1 l2 i3 i4 l5 i6 i7 i8 i9 i10 i11 l12 l13 i14 i15=>RN 38 Tryz.f38 (O38 a0 a1 a2 a3 a4 a5 a6 a7 a8 a9 a10) (aA cfg k) (aF cfg (aA cfg k) 20) k (aJ Tryz.f38 0) (CZ i0 b1 l2 i3 i4 l5 i6 i7 i8 i9 i10 i11 l12 l13 i14 i15))=(L38 (aA cfg k) k)from(funext fun i0=>funext fun b1=>funext fun l2=>funext fun i3=>funext fun i4=>funext fun l5=>funext fun i6=>funext fun i7=>funext fun i8=>funext fun i9=>funext fun i10=>funext fun i11=>funext fun l12=>funext fun l13=>funext fun i14=>funext fun i15=>ih i0 b1 l2 i3 i4 l5 i6 i7 i8 i9 i10 i11 l12 l13 i14 i15)]
theorem M38 (a0:List V) (a1:Int) (a2:Int) (a3:Int) (a4:Int) (a5:Int) (a6:Int) (a7:List V) (a8:List V) (a9:Int) (a10:Int) (a11:Int) (a12:Bool) {r:V×List Ob} (h:Evt (fun k n=>T38 (aA cfg k) (L38 (aA cfg k) n) a0 a1 a2 a3 a4 a5 a6 a7 a8 a9 a10 a11 a12) r):Ret 38 [V.ref 0 0,V.ref 1 0,V.int TM a11,V.bool a12] [Ob.cells [V.lst 5 false a0,V.int TM a1],Ob.cells [V.int TM a2,V.int TM a3,V.int TM a4,V.int TM a5,V.int TM a6,V.lst 31 true a7,V.lst 27 false a8,V.int TM a9,V.int TM a10]] r:=aR (g:=fun k n=>T38 (aA cfg k) (L38 (aA cfg k) n) a0 a1 a2 a3 a4 a5 a6 a7 a8 a9 a10 a11 a12) (fun k=>C38 k a0 a1 a2 a3 a4 a5 a6 a7 a8 a9 a10 a11 a12) h
theorem OE (i0:Int) (b1:Bool) (l2:List V) (i3:Int) (i4:Int) (l5:List V) (i6:Int) (i7:Int) (i8:Int) (i9:Int) (i10:Int) (i11:Int) (l12:List V) (l13:List V) (i14:Int) (i15:Int) {r:V×List Ob} (h:Evt (fun k n=>CY (aA cfg k) (L38 (aA cfg k) n) i0 b1 l2 i3 i4 l5 i6 i7 i8 i9 i10 i11 l12 l13 i14 i15) r):Evt (fun k n=>(L38 (aA cfg k) n) i0 b1 l2 i3 i4 l5 i6 i7 i8 i9 i10 i11 l12 l13 i14 i15) r:=aX (fun k n=>rfl) h
def T39 (call:FuncId→Fun) (a0:List V) (a1:Int) (a2:List V):Option (V×List Ob):=
 TN (call 64 [(V.lst 133 false a2),(V.str [99,111,110,116,101,110,116,45,116,114,97,110,115,102,101,114,45,101,110,99,111,100,105,110,103])] []) fun z0=>
 if(!(getB (headD (tail (getT z0.1)) V.bot)))=true then
 some ((V.bool true),[(Ob.cells [(V.lst 5 false a0),(V.int .i64 a1)])])
 else
 TN (call 66 [(V.lst 5 false a0),(V.agg [(V.str (getS (headD (V.cells (headD (getT z0.1) V.bot)) V.bot))),(V.int .i64 (getI (headD (tail (V.cells (headD (getT z0.1) V.bot))) V.bot))),(V.int .i64 (getI (headD (tail (tail (V.cells (headD (getT z0.1) V.bot)))) V.bot))),(V.int .i64 (getI (headD (tail (tail (tail (V.cells (headD (getT z0.1) V.bot))))) V.bot)))])] []) fun z1=>
 TN (call 65 [(V.str (getS z1.1))] []) fun z2=>
 if(sEq (getS z2.1) [55,98,105,116])=true then
 some ((V.bool true),[(Ob.cells [(V.lst 5 false a0),(V.int .i64 a1)])])
 else
 if(sEq (getS z2.1) [56,98,105,116])=true then
 some ((V.bool true),[(Ob.cells [(V.lst 5 false a0),(V.int .i64 a1)])])
 else
 if(sEq (getS z2.1) [98,105,110,97,114,121])=true then
 some ((V.bool true),[(Ob.cells [(V.lst 5 false a0),(V.int .i64 a1)])])
 else
 some ((V.bool false),[(Ob.cells [(V.lst 5 false a0),(V.int .i64 a1)])])
def O39 (a0:List V) (a1:Int):List Ob:=[Ob.cells [V.lst 5 false a0,V.int TM a1]]
def A39 (a2:List V):List V:=[V.ref 0 0,V.lst 133 false a2]
theorem E39 (a0:List V) (a1:Int) (a2:List V):GO 39 Tryz.f39 (A39 a2) (O39 a0 a1) call icall again=T39 call a0 a1 a2:=by kernel_rfl
theorem C39 (k:Nat) (a0:List V) (a1:Int) (a2:List V):aA cfg (k+1) 39 (A39 a2) (O39 a0 a1)=T39 (aA cfg k) a0 a1 a2:=
 (show aA cfg (k+1) 39 (A39 a2) (O39 a0 a1)=GO 39 Tryz.f39 (A39 a2) (O39 a0 a1) (aA cfg k) (aF cfg (aA cfg k) 20) (RN 39 Tryz.f39 (O39 a0 a1) (aA cfg k) (aF cfg (aA cfg k) 20) k)by kernel_rfl).trans (E39 _ _ _ a0 a1 a2)
theorem M39 (a0:List V) (a1:Int) (a2:List V) {r:V×List Ob} (h:Evt (fun k n=>T39 (aA cfg k) a0 a1 a2) r):Ret 39 [V.ref 0 0,V.lst 133 false a2] [Ob.cells [V.lst 5 false a0,V.int TM a1]] r:=aR (g:=fun k n=>T39 (aA cfg k) a0 a1 a2) (fun k=>C39 k a0 a1 a2) h
def T15 (call:FuncId→Fun) (a0:List V) (a1:Int) (a2:Int) (a3:Int) (a4:Int) (a5:Bool):Option (V×List Ob):=
 TN (call 34 [(V.lst 5 false a0),(V.agg [(V.int .i64 a2),(V.int .i64 a3)])] []) fun z0=>
 if(a4==(32:Int))=true then
 some ((V.agg [(V.int .i64 0),(V.int .i64 a2),(V.int .i64 (getI (headD (tail (getT z0.1)) V.bot))),(V.int .i64 (getI (headD (tail (getT z0.1)) V.bot))),(V.int .i64 a3),(V.lst 31 false []),(V.lst 27 false []),(V.int .i64 0),(V.int .i64 0)]),[(Ob.cells [(V.lst 5 false a0),(V.int .i64 a1)])])
 else
 TN (call 35 [(V.ref 0 0),(V.lst 133 false (getL (headD (getT z0.1) V.bot))),(V.bool a5)] [(Ob.cells [(V.lst 5 false a0),(V.int .i64 a1)])]) fun z1=>
 TN (call 36 [(V.agg [(V.str (getS (headD (V.cells z1.1) V.bot))),(V.str (getS (headD (tail (V.cells z1.1)) V.bot))),(V.lst 140 false (getL (headD (tail (tail (V.cells z1.1))) V.bot)))]),(V.str [98,111,117,110,100,97,114,121])] []) fun z2=>
 TN (if(sEq (getS (headD (V.cells z1.1) V.bot)) [109,117,108,116,105,112,97,114,116])=true then
 if(!(sEq (getS (headD (getT z2.1) V.bot)) []))=true then
 some (decide (((length (getS (headD (getT z2.1) V.bot)):Nat):Int)≤(70:Int)))
 else
 some false
 else
 some false) fun y3=>
 if y3=true then
 TN (call 37 [(V.ref 0 0),(V.agg [(V.int .i64 (getI (headD (tail (getT z0.1)) V.bot))),(V.int .i64 a3)]),(V.str (getS (headD (getT z2.1) V.bot)))] [(Ob.cells [(V.lst 5 false (getL (headD (Ob.getC (headD z1.2 Ob.dead)) V.bot))),(V.int .i64 (getI (headD (tail (Ob.getC (headD z1.2 Ob.dead))) V.bot)))])]) fun z4=>
 TN (if(getB (headD (tail (tail (getT z4.1))) V.bot))=true then
 some (decide ((TK .i64 ((getI (headD (tail (Ob.getC (headD z4.2 Ob.dead))) V.bot))+((length (getL (headD (getT z4.1) V.bot)):Nat):Int)))≤(1000:Int)))
 else
 some false) fun y5=>
 if y5=true then
 TN (call 38 [(V.ref 0 0),(V.ref 1 0),(V.int .i64 (TK .i64 (a4+(1:Int)))),(V.bool (sEq (getS (headD (tail (V.cells z1.1)) V.bot)) [100,105,103,101,115,116]))] [(Ob.cells [(V.lst 5 false (getL (headD (Ob.getC (headD z4.2 Ob.dead)) V.bot))),(V.int .i64 (TK .i64 ((getI (headD (tail (Ob.getC (headD z4.2 Ob.dead))) V.bot))+((length (getL (headD (getT z4.1) V.bot)):Nat):Int))))]),(Ob.cells [(V.int .i64 1),(V.int .i64 a2),(V.int .i64 (getI (headD (tail (getT z0.1)) V.bot))),(V.int .i64 (getI (headD (tail (getT z0.1)) V.bot))),(V.int .i64 a3),(V.lst 31 true []),(V.lst 27 false (getL (headD (getT z4.1) V.bot))),(V.int .i64 (getI (headD (V.cells (headD (tail (getT z4.1)) V.bot)) V.bot))),(V.int .i64 (getI (headD (tail (V.cells (headD (tail (getT z4.1)) V.bot))) V.bot)))])]) fun z6=>
 some ((V.agg [(V.int .i64 (getI (headD (Ob.getC (headD (tail z6.2) Ob.dead)) V.bot))),(V.int .i64 (getI (headD (tail (Ob.getC (headD (tail z6.2) Ob.dead))) V.bot))),(V.int .i64 (getI (headD (tail (tail (Ob.getC (headD (tail z6.2) Ob.dead)))) V.bot))),(V.int .i64 (getI (headD (tail (tail (tail (Ob.getC (headD (tail z6.2) Ob.dead))))) V.bot))),(V.int .i64 (getI (headD (tail (tail (tail (tail (Ob.getC (headD (tail z6.2) Ob.dead)))))) V.bot))),(V.lst 31 false (getL (headD (tail (tail (tail (tail (tail (Ob.getC (headD (tail z6.2) Ob.dead))))))) V.bot))),(V.lst 27 false (getL (headD (tail (tail (tail (tail (tail (tail (Ob.getC (headD (tail z6.2) Ob.dead)))))))) V.bot))),(V.int .i64 (getI (headD (tail (tail (tail (tail (tail (tail (tail (Ob.getC (headD (tail z6.2) Ob.dead))))))))) V.bot))),(V.int .i64 (getI (headD (tail (tail (tail (tail (tail (tail (tail (tail (Ob.getC (headD (tail z6.2) Ob.dead)))))))))) V.bot)))]),[(Ob.cells [(V.lst 5 false (getL (headD (Ob.getC (headD z6.2 Ob.dead)) V.bot))),(V.int .i64 (getI (headD (tail (Ob.getC (headD z6.2 Ob.dead))) V.bot)))])])
 else
 some ((V.agg [(V.int .i64 0),(V.int .i64 a2),(V.int .i64 (getI (headD (tail (getT z0.1)) V.bot))),(V.int .i64 (getI (headD (tail (getT z0.1)) V.bot))),(V.int .i64 a3),(V.lst 31 false []),(V.lst 27 false []),(V.int .i64 0),(V.int .i64 0)]),[(Ob.cells [(V.lst 5 false (getL (headD (Ob.getC (headD z4.2 Ob.dead)) V.bot))),(V.int .i64 (getI (headD (tail (Ob.getC (headD z4.2 Ob.dead))) V.bot)))])])
 else
 if(sEq (getS (headD (V.cells z1.1) V.bot)) [109,101,115,115,97,103,101])=true then
 if(sEq (getS (headD (tail (V.cells z1.1)) V.bot)) [114,102,99,56,50,50])=true then
 TN (call 39 [(V.ref 0 0),(V.lst 133 false (getL (headD (getT z0.1) V.bot)))] [(Ob.cells [(V.lst 5 false (getL (headD (Ob.getC (headD z1.2 Ob.dead)) V.bot))),(V.int .i64 (getI (headD (tail (Ob.getC (headD z1.2 Ob.dead))) V.bot)))])]) fun z4=>
 if(getB z4.1)=true then
 if(decide ((getI (headD (tail (Ob.getC (headD z4.2 Ob.dead))) V.bot))<(1000:Int)))=true then
 TN (call 15 [(V.ref 0 0),(V.agg [(V.int .i64 (getI (headD (tail (getT z0.1)) V.bot))),(V.int .i64 a3)]),(V.int .i64 (TK .i64 (a4+(1:Int)))),(V.bool false)] [(Ob.cells [(V.lst 5 false (getL (headD (Ob.getC (headD z4.2 Ob.dead)) V.bot))),(V.int .i64 (TK .i64 ((getI (headD (tail (Ob.getC (headD z4.2 Ob.dead))) V.bot))+(1:Int))))])]) fun z5=>
 some ((V.agg [(V.int .i64 2),(V.int .i64 a2),(V.int .i64 (getI (headD (tail (getT z0.1)) V.bot))),(V.int .i64 (getI (headD (tail (getT z0.1)) V.bot))),(V.int .i64 a3),(V.lst 31 false [(V.agg [(V.int .i64 (getI (headD (V.cells z5.1) V.bot))),(V.int .i64 (getI (headD (tail (V.cells z5.1)) V.bot))),(V.int .i64 (getI (headD (tail (tail (V.cells z5.1))) V.bot))),(V.int .i64 (getI (headD (tail (tail (tail (V.cells z5.1)))) V.bot))),(V.int .i64 (getI (headD (tail (tail (tail (tail (V.cells z5.1))))) V.bot))),(V.lst 31 false (getL (headD (tail (tail (tail (tail (tail (V.cells z5.1)))))) V.bot))),(V.lst 27 false (getL (headD (tail (tail (tail (tail (tail (tail (V.cells z5.1))))))) V.bot))),(V.int .i64 (getI (headD (tail (tail (tail (tail (tail (tail (tail (V.cells z5.1)))))))) V.bot))),(V.int .i64 (getI (headD (tail (tail (tail (tail (tail (tail (tail (tail (V.cells z5.1))))))))) V.bot)))])]),(V.lst 27 false []),(V.int .i64 0),(V.int .i64 0)]),[(Ob.cells [(V.lst 5 false (getL (headD (Ob.getC (headD z5.2 Ob.dead)) V.bot))),(V.int .i64 (getI (headD (tail (Ob.getC (headD z5.2 Ob.dead))) V.bot)))])])
 else
 some ((V.agg [(V.int .i64 0),(V.int .i64 a2),(V.int .i64 (getI (headD (tail (getT z0.1)) V.bot))),(V.int .i64 (getI (headD (tail (getT z0.1)) V.bot))),(V.int .i64 a3),(V.lst 31 false []),(V.lst 27 false []),(V.int .i64 0),(V.int .i64 0)]),[(Ob.cells [(V.lst 5 false (getL (headD (Ob.getC (headD z4.2 Ob.dead)) V.bot))),(V.int .i64 (getI (headD (tail (Ob.getC (headD z4.2 Ob.dead))) V.bot)))])])
 else
 some ((V.agg [(V.int .i64 0),(V.int .i64 a2),(V.int .i64 (getI (headD (tail (getT z0.1)) V.bot))),(V.int .i64 (getI (headD (tail (getT z0.1)) V.bot))),(V.int .i64 a3),(V.lst 31 false []),(V.lst 27 false []),(V.int .i64 0),(V.int .i64 0)]),[(Ob.cells [(V.lst 5 false (getL (headD (Ob.getC (headD z4.2 Ob.dead)) V.bot))),(V.int .i64 (getI (headD (tail (Ob.getC (headD z4.2 Ob.dead))) V.bot)))])])
 else
 some ((V.agg [(V.int .i64 0),(V.int .i64 a2),(V.int .i64 (getI (headD (tail (getT z0.1)) V.bot))),(V.int .i64 (getI (headD (tail (getT z0.1)) V.bot))),(V.int .i64 a3),(V.lst 31 false []),(V.lst 27 false []),(V.int .i64 0),(V.int .i64 0)]),[(Ob.cells [(V.lst 5 false (getL (headD (Ob.getC (headD z1.2 Ob.dead)) V.bot))),(V.int .i64 (getI (headD (tail (Ob.getC (headD z1.2 Ob.dead))) V.bot)))])])
 else
 some ((V.agg [(V.int .i64 0),(V.int .i64 a2),(V.int .i64 (getI (headD (tail (getT z0.1)) V.bot))),(V.int .i64 (getI (headD (tail (getT z0.1)) V.bot))),(V.int .i64 a3),(V.lst 31 false []),(V.lst 27 false []),(V.int .i64 0),(V.int .i64 0)]),[(Ob.cells [(V.lst 5 false (getL (headD (Ob.getC (headD z1.2 Ob.dead)) V.bot))),(V.int .i64 (getI (headD (tail (Ob.getC (headD z1.2 Ob.dead))) V.bot)))])])
def O15 (a0:List V) (a1:Int):List Ob:=[Ob.cells [V.lst 5 false a0,V.int TM a1]]
def A15 (a2:Int) (a3:Int) (a4:Int) (a5:Bool):List V:=[V.ref 0 0,V.agg [V.int TM a2,V.int TM a3],V.int TM a4,V.bool a5]
theorem E15 (a0:List V) (a1:Int) (a2:Int) (a3:Int) (a4:Int) (a5:Bool):GO 15 Tryz.f15 (A15 a2 a3 a4 a5) (O15 a0 a1) call icall again=T15 call a0 a1 a2 a3 a4 a5:=by kernel_rfl
theorem C15 (k:Nat) (a0:List V) (a1:Int) (a2:Int) (a3:Int) (a4:Int) (a5:Bool):aA cfg (k+1) 15 (A15 a2 a3 a4 a5) (O15 a0 a1)=T15 (aA cfg k) a0 a1 a2 a3 a4 a5:=
 (show aA cfg (k+1) 15 (A15 a2 a3 a4 a5) (O15 a0 a1)=GO 15 Tryz.f15 (A15 a2 a3 a4 a5) (O15 a0 a1) (aA cfg k) (aF cfg (aA cfg k) 20) (RN 15 Tryz.f15 (O15 a0 a1) (aA cfg k) (aF cfg (aA cfg k) 20) k)by kernel_rfl).trans (E15 _ _ _ a0 a1 a2 a3 a4 a5)
theorem M15 (a0:List V) (a1:Int) (a2:Int) (a3:Int) (a4:Int) (a5:Bool) {r:V×List Ob} (h:Evt (fun k n=>T15 (aA cfg k) a0 a1 a2 a3 a4 a5) r):Ret 15 [V.ref 0 0,V.agg [V.int TM a2,V.int TM a3],V.int TM a4,V.bool a5] [Ob.cells [V.lst 5 false a0,V.int TM a1]] r:=aR (g:=fun k n=>T15 (aA cfg k) a0 a1 a2 a3 a4 a5) (fun k=>C15 k a0 a1 a2 a3 a4 a5) h
def T7 (call:FuncId→Fun) (a0:List V):Option (V×List Ob):=
 if(decide (((length a0:Nat):Int)>(67108864:Int)))=true then
 some ((V.tup [(V.agg [(V.int .i64 0),(V.int .i64 0),(V.int .i64 0),(V.int .i64 0),(V.int .i64 0),(V.lst 31 false []),(V.lst 27 false []),(V.int .i64 0),(V.int .i64 0)]),(V.int .i64 13)]),[])
 else
 TN (call 15 [(V.ref 0 0),(V.agg [(V.int .i64 0),(V.int .i64 ((length a0:Nat):Int))]),(V.int .i64 0),(V.bool false)] [(Ob.cells [(V.lst 5 false a0),(V.int .i64 1)])]) fun z0=>
 some ((V.tup [(V.agg [(V.int .i64 (getI (headD (V.cells z0.1) V.bot))),(V.int .i64 (getI (headD (tail (V.cells z0.1)) V.bot))),(V.int .i64 (getI (headD (tail (tail (V.cells z0.1))) V.bot))),(V.int .i64 (getI (headD (tail (tail (tail (V.cells z0.1)))) V.bot))),(V.int .i64 (getI (headD (tail (tail (tail (tail (V.cells z0.1))))) V.bot))),(V.lst 31 false (getL (headD (tail (tail (tail (tail (tail (V.cells z0.1)))))) V.bot))),(V.lst 27 false (getL (headD (tail (tail (tail (tail (tail (tail (V.cells z0.1))))))) V.bot))),(V.int .i64 (getI (headD (tail (tail (tail (tail (tail (tail (tail (V.cells z0.1)))))))) V.bot))),(V.int .i64 (getI (headD (tail (tail (tail (tail (tail (tail (tail (tail (V.cells z0.1))))))))) V.bot)))]),(V.int .i64 0)]),[])
def A7 (a0:List V):List V:=[V.lst 5 false a0]
theorem E7 (a0:List V):GO 7 Tryz.f7 (A7 a0) [] call icall again=T7 call a0:=by kernel_rfl
theorem C7 (k:Nat) (a0:List V):aA cfg (k+1) 7 (A7 a0) []=T7 (aA cfg k) a0:=
 (show aA cfg (k+1) 7 (A7 a0) []=GO 7 Tryz.f7 (A7 a0) [] (aA cfg k) (aF cfg (aA cfg k) 20) (RN 7 Tryz.f7 [] (aA cfg k) (aF cfg (aA cfg k) 20) k)by kernel_rfl).trans (E7 _ _ _ a0)
theorem M7 (a0:List V) {r:V×List Ob} (h:Evt (fun k n=>T7 (aA cfg k) a0) r):Ret 7 [V.lst 5 false a0] [] r:=aR (g:=fun k n=>T7 (aA cfg k) a0) (fun k=>C7 k a0) h
def Gf (call:FuncId→Fun) (ag0:Int→List V→Int→Int→Option (V×List Ob)) (i0:Int) (l1:List V) (i2:Int) (i3:Int):Option (V×List Ob):=
 if(decide (i3<i2))=true then
 chk (decide (0≤i3)) (chk (decide (i3<((length l1:Nat):Int))) (TN (call 40 [(V.agg [(V.int .i64 (getI (headD (V.cells (getD l1 (TO i3) V.bot)) V.bot))),(V.int .i64 (getI (headD (tail (V.cells (getD l1 (TO i3) V.bot))) V.bot))),(V.int .i64 (getI (headD (tail (tail (V.cells (getD l1 (TO i3) V.bot)))) V.bot))),(V.int .i64 (getI (headD (tail (tail (tail (V.cells (getD l1 (TO i3) V.bot))))) V.bot))),(V.int .i64 (getI (headD (tail (tail (tail (tail (V.cells (getD l1 (TO i3) V.bot)))))) V.bot))),(V.lst 31 false (getL (headD (tail (tail (tail (tail (tail (V.cells (getD l1 (TO i3) V.bot))))))) V.bot))),(V.lst 27 false (getL (headD (tail (tail (tail (tail (tail (tail (V.cells (getD l1 (TO i3) V.bot)))))))) V.bot))),(V.int .i64 (getI (headD (tail (tail (tail (tail (tail (tail (tail (V.cells (getD l1 (TO i3) V.bot))))))))) V.bot))),(V.int .i64 (getI (headD (tail (tail (tail (tail (tail (tail (tail (tail (V.cells (getD l1 (TO i3) V.bot)))))))))) V.bot)))])] []) fun z0=>
 (ag0 ((TK .i64 (i0+(getI z0.1)))) (l1) (i2) ((TK .i64 (i3+(1:Int)))))))
 else
 some ((V.int .i64 i0),[])
def T40 (call:FuncId→Fun) (ag0:Int→List V→Int→Int→Option (V×List Ob)) (a0:Int) (a1:Int) (a2:Int) (a3:Int) (a4:Int) (a5:List V) (a6:List V) (a7:Int) (a8:Int):Option (V×List Ob):=
 (ag0 ((1:Int)) (a5) (((length a5:Nat):Int)) ((0:Int)))
def A40 (a0:Int) (a1:Int) (a2:Int) (a3:Int) (a4:Int) (a5:List V) (a6:List V) (a7:Int) (a8:Int):List V:=[V.agg [V.int TM a0,V.int TM a1,V.int TM a2,V.int TM a3,V.int TM a4,V.lst 31 false a5,V.lst 27 false a6,V.int TM a7,V.int TM a8]]
def C0 (i0:Int) (l1:List V) (i2:Int) (i3:Int):St:=⟨[V.bot,V.bot,V.bot,(V.int TM i0),V.bot,V.bot,V.bot,(V.lst 31 false l1),(V.int TM i2),(V.int TM i3)]++TZ 9 V.bot,[]⟩
theorem RB (i0:Int) (l1:List V) (i2:Int) (i3:Int):
 RM 40 Tryz.f40 [] call icall again (aJ Tryz.f40 0) (C0 i0 l1 i2 i3)=Gf call (fun i0 l1 i2 i3=>again (aJ Tryz.f40 0) (C0 i0 l1 i2 i3)) i0 l1 i2 i3:=by kernel_rfl
theorem E40 (a0:Int) (a1:Int) (a2:Int) (a3:Int) (a4:Int) (a5:List V) (a6:List V) (a7:Int) (a8:Int):GO 40 Tryz.f40 (A40 a0 a1 a2 a3 a4 a5 a6 a7 a8) [] call icall again=T40 call (fun i0 l1 i2 i3=>again (aJ Tryz.f40 0) (C0 i0 l1 i2 i3)) a0 a1 a2 a3 a4 a5 a6 a7 a8:=by kernel_rfl
def L40 (call:FuncId→Fun):Nat→(Int→List V→Int→Int→Option (V×List Ob))
 |0=>fun _ _ _ _=>none
 |n+1=>Gf call (L40 call n)
theorem R40 (call:FuncId→Fun) (icall:aN (V×List Ob)):∀n,(∀(i0:Int) (l1:List V) (i2:Int) (i3:Int),RN 40 Tryz.f40 [] call icall n (aJ Tryz.f40 0) (C0 i0 l1 i2 i3)=(L40 call n) i0 l1 i2 i3)
 |0=>fun i0 l1 i2 i3=>rfl
 |n+1=>by
  have ih:=R40 call icall n
  exact fun i0 l1 i2 i3=>(RB call icall (RN 40 Tryz.f40 [] call icall n) i0 l1 i2 i3).trans (by rw[show(fun i0 l1 i2 i3=>RN 40 Tryz.f40 [] call icall n (aJ Tryz.f40 0) (C0 i0 l1 i2 i3))=(L40 call n)from(funext fun i0=>funext fun l1=>funext fun i2=>funext fun i3=>ih i0 l1 i2 i3)];rfl)
theorem C40 (k:Nat) (a0:Int) (a1:Int) (a2:Int) (a3:Int) (a4:Int) (a5:List V) (a6:List V) (a7:Int) (a8:Int):aA cfg (k+1) 40 (A40 a0 a1 a2 a3 a4 a5 a6 a7 a8) []=T40 (aA cfg k) (L40 (aA cfg k) k) a0 a1 a2 a3 a4 a5 a6 a7 a8:=by
 have ih:=R40 (aA cfg k) (aF cfg (aA cfg k) 20) k
 refine(show aA cfg (k+1) 40 (A40 a0 a1 a2 a3 a4 a5 a6 a7 a8) []=GO 40 Tryz.f40 (A40 a0 a1 a2 a3 a4 a5 a6 a7 a8) [] (aA cfg k) (aF cfg (aA cfg k) 20) (RN 40 Tryz.f40 [] (aA cfg k) (aF cfg (aA cfg k) 20) k)by kernel_rfl).trans ((E40 _ _ _ a0 a1 a2 a3 a4 a5 a6 a7 a8).trans ?_)
 rw[show(fun i0 l1 i2 i3=>RN 40 Tryz.f40 [] (aA cfg k) (aF cfg (aA cfg k) 20) k (aJ Tryz.f40 0) (C0 i0 l1 i2 i3))=(L40 (aA cfg k) k)from(funext fun i0=>funext fun l1=>funext fun i2=>funext fun i3=>ih i0 l1 i2 i3)]
theorem M40 (a0:Int) (a1:Int) (a2:Int) (a3:Int) (a4:Int) (a5:List V) (a6:List V) (a7:Int) (a8:Int) {r:V×List Ob} (h:Evt (fun k n=>T40 (aA cfg k) (L40 (aA cfg k) n) a0 a1 a2 a3 a4 a5 a6 a7 a8) r):Ret 40 [V.agg [V.int TM a0,V.int TM a1,V.int TM a2,V.int TM a3,V.int TM a4,V.lst 31 false a5,V.lst 27 false a6,V.int TM a7,V.int TM a8]] [] r:=aR (g:=fun k n=>T40 (aA cfg k) (L40 (aA cfg k) n) a0 a1 a2 a3 a4 a5 a6 a7 a8) (fun k=>C40 k a0 a1 a2 a3 a4 a5 a6 a7 a8) h
theorem OF (i0:Int) (l1:List V) (i2:Int) (i3:Int) {r:V×List Ob} (h:Evt (fun k n=>Gf (aA cfg k) (L40 (aA cfg k) n) i0 l1 i2 i3) r):Evt (fun k n=>(L40 (aA cfg k) n) i0 l1 i2 i3) r:=aX (fun k n=>rfl) h
def Gg (call:FuncId→Fun) (ag0:Int→List V→Int→Int→Option (V×List Ob)) (i0:Int) (l1:List V) (i2:Int) (i3:Int):Option (V×List Ob):=
 if(decide (i3<i2))=true then
 chk (decide (0≤i3)) (chk (decide (i3<((length l1:Nat):Int))) (TN (call 41 [(V.agg [(V.int .i64 (getI (headD (V.cells (getD l1 (TO i3) V.bot)) V.bot))),(V.int .i64 (getI (headD (tail (V.cells (getD l1 (TO i3) V.bot))) V.bot))),(V.int .i64 (getI (headD (tail (tail (V.cells (getD l1 (TO i3) V.bot)))) V.bot))),(V.int .i64 (getI (headD (tail (tail (tail (V.cells (getD l1 (TO i3) V.bot))))) V.bot))),(V.int .i64 (getI (headD (tail (tail (tail (tail (V.cells (getD l1 (TO i3) V.bot)))))) V.bot))),(V.lst 31 false (getL (headD (tail (tail (tail (tail (tail (V.cells (getD l1 (TO i3) V.bot))))))) V.bot))),(V.lst 27 false (getL (headD (tail (tail (tail (tail (tail (tail (V.cells (getD l1 (TO i3) V.bot)))))))) V.bot))),(V.int .i64 (getI (headD (tail (tail (tail (tail (tail (tail (tail (V.cells (getD l1 (TO i3) V.bot))))))))) V.bot))),(V.int .i64 (getI (headD (tail (tail (tail (tail (tail (tail (tail (tail (V.cells (getD l1 (TO i3) V.bot)))))))))) V.bot)))])] []) fun z0=>
 (ag0 ((if(TK .i64 ((getI z0.1)+(1:Int)))>i0 then(TK .i64 ((getI z0.1)+(1:Int)))else i0)) (l1) (i2) ((TK .i64 (i3+(1:Int)))))))
 else
 some ((V.int .i64 i0),[])
def T41 (call:FuncId→Fun) (ag0:Int→List V→Int→Int→Option (V×List Ob)) (a0:Int) (a1:Int) (a2:Int) (a3:Int) (a4:Int) (a5:List V) (a6:List V) (a7:Int) (a8:Int):Option (V×List Ob):=
 (ag0 ((0:Int)) (a5) (((length a5:Nat):Int)) ((0:Int)))
def A41 (a0:Int) (a1:Int) (a2:Int) (a3:Int) (a4:Int) (a5:List V) (a6:List V) (a7:Int) (a8:Int):List V:=[V.agg [V.int TM a0,V.int TM a1,V.int TM a2,V.int TM a3,V.int TM a4,V.lst 31 false a5,V.lst 27 false a6,V.int TM a7,V.int TM a8]]
def C2 (i0:Int) (l1:List V) (i2:Int) (i3:Int):St:=⟨[V.bot,V.bot,V.bot,(V.int TM i0),V.bot,V.bot,V.bot,(V.lst 31 false l1),(V.int TM i2),(V.int TM i3)]++TZ 10 V.bot,[]⟩
theorem RD (i0:Int) (l1:List V) (i2:Int) (i3:Int):
 RM 41 Tryz.f41 [] call icall again (aJ Tryz.f41 0) (C2 i0 l1 i2 i3)=Gg call (fun i0 l1 i2 i3=>again (aJ Tryz.f41 0) (C2 i0 l1 i2 i3)) i0 l1 i2 i3:=by kernel_rfl
theorem E41 (a0:Int) (a1:Int) (a2:Int) (a3:Int) (a4:Int) (a5:List V) (a6:List V) (a7:Int) (a8:Int):GO 41 Tryz.f41 (A41 a0 a1 a2 a3 a4 a5 a6 a7 a8) [] call icall again=T41 call (fun i0 l1 i2 i3=>again (aJ Tryz.f41 0) (C2 i0 l1 i2 i3)) a0 a1 a2 a3 a4 a5 a6 a7 a8:=by kernel_rfl
def L41 (call:FuncId→Fun):Nat→(Int→List V→Int→Int→Option (V×List Ob))
 |0=>fun _ _ _ _=>none
 |n+1=>Gg call (L41 call n)
theorem R41 (call:FuncId→Fun) (icall:aN (V×List Ob)):∀n,(∀(i0:Int) (l1:List V) (i2:Int) (i3:Int),RN 41 Tryz.f41 [] call icall n (aJ Tryz.f41 0) (C2 i0 l1 i2 i3)=(L41 call n) i0 l1 i2 i3)
 |0=>fun i0 l1 i2 i3=>rfl
 |n+1=>by
  have ih:=R41 call icall n
  exact fun i0 l1 i2 i3=>(RD call icall (RN 41 Tryz.f41 [] call icall n) i0 l1 i2 i3).trans (by rw[show(fun i0 l1 i2 i3=>RN 41 Tryz.f41 [] call icall n (aJ Tryz.f41 0) (C2 i0 l1 i2 i3))=(L41 call n)from(funext fun i0=>funext fun l1=>funext fun i2=>funext fun i3=>ih i0 l1 i2 i3)];rfl)
theorem C41 (k:Nat) (a0:Int) (a1:Int) (a2:Int) (a3:Int) (a4:Int) (a5:List V) (a6:List V) (a7:Int) (a8:Int):aA cfg (k+1) 41 (A41 a0 a1 a2 a3 a4 a5 a6 a7 a8) []=T41 (aA cfg k) (L41 (aA cfg k) k) a0 a1 a2 a3 a4 a5 a6 a7 a8:=by
 have ih:=R41 (aA cfg k) (aF cfg (aA cfg k) 20) k
 refine(show aA cfg (k+1) 41 (A41 a0 a1 a2 a3 a4 a5 a6 a7 a8) []=GO 41 Tryz.f41 (A41 a0 a1 a2 a3 a4 a5 a6 a7 a8) [] (aA cfg k) (aF cfg (aA cfg k) 20) (RN 41 Tryz.f41 [] (aA cfg k) (aF cfg (aA cfg k) 20) k)by kernel_rfl).trans ((E41 _ _ _ a0 a1 a2 a3 a4 a5 a6 a7 a8).trans ?_)
 rw[show(fun i0 l1 i2 i3=>RN 41 Tryz.f41 [] (aA cfg k) (aF cfg (aA cfg k) 20) k (aJ Tryz.f41 0) (C2 i0 l1 i2 i3))=(L41 (aA cfg k) k)from(funext fun i0=>funext fun l1=>funext fun i2=>funext fun i3=>ih i0 l1 i2 i3)]
theorem M41 (a0:Int) (a1:Int) (a2:Int) (a3:Int) (a4:Int) (a5:List V) (a6:List V) (a7:Int) (a8:Int) {r:V×List Ob} (h:Evt (fun k n=>T41 (aA cfg k) (L41 (aA cfg k) n) a0 a1 a2 a3 a4 a5 a6 a7 a8) r):Ret 41 [V.agg [V.int TM a0,V.int TM a1,V.int TM a2,V.int TM a3,V.int TM a4,V.lst 31 false a5,V.lst 27 false a6,V.int TM a7,V.int TM a8]] [] r:=aR (g:=fun k n=>T41 (aA cfg k) (L41 (aA cfg k) n) a0 a1 a2 a3 a4 a5 a6 a7 a8) (fun k=>C41 k a0 a1 a2 a3 a4 a5 a6 a7 a8) h
theorem OG (i0:Int) (l1:List V) (i2:Int) (i3:Int) {r:V×List Ob} (h:Evt (fun k n=>Gg (aA cfg k) (L41 (aA cfg k) n) i0 l1 i2 i3) r):Evt (fun k n=>(L41 (aA cfg k) n) i0 l1 i2 i3) r:=aX (fun k n=>rfl) h
end Go.Proofs.YtgpofjbdjiajeaaGreatDoor
end
section
namespace Go.Proofs.YtgpofjbdjiajeaaGreatDoor
open Go.Ev Go
def tR (s:Bs):Bool:=trimF s==[]
def tU (text bd:Bs):Bool×Bool:=
 if text.length<2+bd.length∨text.take (2+bd.length)≠[45,45]++bd then(false,false)else
 if tR (text.drop (2+bd.length))then(true,false)else
 if 2≤(text.drop (2+bd.length)).length∧(text.drop (2+bd.length)).take 2=[45,45]∧tR ((text.drop (2+bd.length)).drop 2)=true then(true,true)else(false,false)
theorem OH (s:Bs) (hs:s.length≤1000000):Ret 89 [.str s] [] (.bool (tR s),[]):=by
 refine M89 s ?_
 simp only[T89]
 refine aB (OB s (by omega)) ?_
 exact aD _
theorem RE (text bd:Bs) (ht:text.length≤1000000) (hb:bd.length≤1000000):Ret 63 [.str text, .str bd] [] (.tup [.bool (tU text bd).1, .bool (tU text bd).2],[]):=by
 refine M63 text bd ?_
 have hw:TK .i64 ((2:Int)+(bd.length:Int))=((2+bd.length:Nat):Int):=by rw[wrap64 (by omega) (by omega)];omega
 have h0:(0:Int)≤((2+bd.length:Nat):Int):=by omega
 have hc:fK [45,45] bd=true:=oY (by simp;omega)
 simp only[T63,hw]
 unfold tU
 by_cases h1:text.length<2+bd.length
 ·have h1' :(text.length:Int)<((2+bd.length:Nat):Int):=by omega
  simp only[h1',decide_true,VY,if_false,aY,if_true,h1,true_or]
  exact aD _
 ·have h1' :¬((text.length:Int)<((2+bd.length:Nat):Int)):=by omega
  have h2:((2+bd.length:Nat):Int)≤(text.length:Int):=by omega
  simp only[h1',decide_false,if_true,aI h0,aI h2,aI (show(0:Int)≤0 by omega),cZ hc,VP,TW,U7,aY,h1,false_or]
  by_cases h3:text.take (2+bd.length)=[45,45]++bd
  ·have h3' :sEq (text.take (2+bd.length)) ([45,45]++bd)=true:=by simp[sEq,h3]
   simp only[h3',UP,TL,if_false]
   simp only[h3,ne_eq,not_true_eq_false,if_false]
   have hr:(text.drop (2+bd.length)).length≤1000000:=by simp;omega
   obtain⟨rest,hrest⟩:∃rest,text.drop (2+bd.length)=rest:=⟨_,rfl⟩
   simp only[hrest]at hr ⊢
   refine aB (OH rest hr) ?_
   simp only[V.getB]
   by_cases h4:tR rest=true
   ·simp only[h4,if_true];exact aD _
   ·have h4' :tR rest=false:=by simpa using h4
    simp only[h4',TL,if_false]
    by_cases h5:2≤rest.length
    ·have h5' :((rest.length:Int)≥(2:Int)):=by omega
     have h5'' :((2:Int)≤(rest.length:Int)):=by omega
     simp only[h5',decide_true,if_true,aI (show(0:Int)≤2 by omega),aI h5'',aI (show(0:Int)≤0 by omega),VP,U7,h5,true_and,show TO 2=2 from rfl,cR]
     by_cases h6:rest.take 2=[45,45]
     ·have h6' :sEq (rest.take 2) [45,45]=true:=by simp[sEq,h6]
      simp only[h6',if_true,h6,true_and]
      refine aB (OH (rest.drop 2) (by simp;omega)) ?_
      simp only[V.getB]
      by_cases h7:tR (rest.drop 2)=true
      ·simp only[h7,if_true];exact aD _
      ·have h7' :tR (rest.drop 2)=false:=by simpa using h7
       simp only[h7',TL,if_false];exact aD _
     ·have h6' :sEq (rest.take 2) [45,45]=false:=by simp[sEq,h6]
      simp only[h6',TL,if_false,h6,false_and];exact aD _
    ·have h5' :¬((rest.length:Int)≥(2:Int)):=by omega
     simp only[h5',decide_false,TL,if_false,h5,false_and];exact aD _
  ·have h3' :sEq (text.take (2+bd.length)) ([45,45]++bd)=false:=beq_eq_false_iff_ne.2 h3
   simp only[h3',UJ,if_true]
   simp only[h3,ne_eq,not_false_eq_true,if_true]
   exact aD _
end Go.Proofs.YtgpofjbdjiajeaaGreatDoor
end
section
namespace Go.Proofs.YtgpofjbdjiajeaaGreatDoor
open Go.Ev Go
def fH (b bd:Bs):List Ln→List (Nat×Nat)→Nat→List (Nat×Nat)×Option (Nat×Nat)
 |[],out,_=>(out,none)
 |l::r,out,from_=>
  if(tU (bX b l) bd).1=false then fH b bd r out l.2.1
  else if(tU (bX b l) bd).2 then(out,some (from_,l.2.2))else fH b bd r (out++[(from_,l.2.2)]) l.2.2
def dV (b:Bs) (fr to:Nat) (bd:Bs):List (Nat×Nat)×(Nat×Nat):=((fH b bd (aW fr to b) [] fr).1,(fH b bd (aW fr to b) [] fr).2.getD (to,to))
def vE (b:Bs) (n:Int):List Ob:=[.cells [.lst 5 false (ofBytes b), .int .i64 n]]
theorem Ia (b bd:Bs) (hb:b.length≤1000000) (hbd:bd.length≤1000000) (nn:Int) (l:List Ln) (hl:l.length≤1000000) (c d e f:Int) (fr to:Nat):∀(n i:Nat) (out:List (Nat×Nat)) (from_:Nat),l.length - i=n→i≤l.length→out.length≤i→
  Evt (fun k j=>L37 (aA cfg k) j bd (out.map cutV) (from_:Nat) (l.map lnV) (l.length:Nat) (i:Nat) (ofBytes b) nn c d e f (to:Nat) (to:Nat))
   (.tup [.lst 27 false ((fH b bd (l.drop i) out from_).1.map cutV),cutV ((fH b bd (l.drop i) out from_).2.getD (to,to)), .bool (decide (0<(fH b bd (l.drop i) out from_).1.length))],vE b nn)
 |0,i,out,from_,h,hi,ho=>by
  refine OD bd (out.map cutV) (from_:Nat) (l.map lnV) (l.length:Nat) (i:Nat) (ofBytes b) nn c d e f (to:Nat) (to:Nat) ?_
  have h1:¬((i:Int)<(l.length:Int)):=by omega
  have h2:decide ((((out.map cutV).length:Nat):Int)>(0:Int))=decide (0<out.length):=by simp
  rw[UB (by omega)]
  simp only[Ge,h1,decide_false,TL,if_false,fH,h2]
  exact aD _
 |n+1,i,out,from_,h,hi,ho=>by
  have hlt:i<l.length:=by omega
  refine OD bd (out.map cutV) (from_:Nat) (l.map lnV) (l.length:Nat) (i:Nat) (ofBytes b) nn c d e f (to:Nat) (to:Nat) ?_
  have h1:((i:Int)<(l.length:Int)):=by omega
  have h2:(0:Int)≤(i:Int):=by omega
  have hw:TK .i64 ((i:Int)+1)=((i+1:Nat):Int):=by rw[wrap64 (by omega) (by omega)];omega
  have hd:l.drop i=l[i]::l.drop (i+1):=UM hlt
  have htl:=Ba b l[i]
  have h57:Ret 57 [.lst 5 false (ofBytes b), .agg [.int .i64 (l[i].1:Nat), .int .i64 (l[i].2.1:Nat), .int .i64 (l[i].2.2:Nat)]] [] (.str (bX b l[i]),[]):=L0 b l[i]
  rw[hd,fH]
  simp only[Ge,h1,decide_true,if_true,aI h2,Ui,cR,TW,rP hlt,lnV,V.cells,Uc,Um,V.getI,hw]
  refine aB h57 ?_
  simp only[V.getS]
  refine aB (RE (bX b l[i]) bd (by omega) hbd) ?_
  simp only[V.getT,Uc,Um,V.getB]
  cases hd1:(tU (bX b l[i]) bd).1 with
  |false=>
   simp only[UJ,if_true]
   exact Ia b bd hb hbd nn l hl c d e f fr to n (i+1) out l[i].2.1 (by omega) (by omega) (by omega)
  |true=>
   simp only[UP,TL,if_false,VY]
   cases hd2:(tU (bX b l[i]) bd).2 with
   |true=>
    have h3:decide (((out.length:Nat):Int)>(0:Int))=decide (0<out.length):=by simp
    simp only[if_true,h3]
    exact aD _
   |false=>
    have hap:cE (out.map cutV) [V.agg [.int .i64 (from_:Nat), .int .i64 (l[i].2.2:Nat)]] 17=true:=gB (by simp;omega)
    simp only[TL,if_false,cZ hap]
    have:=Ia b bd hb hbd nn l hl c d e f fr to n (i+1) (out++[(from_,l[i].2.2)]) l[i].2.2 (by omega) (by omega) (by simp;omega)
    simp only[V0,UE,VL,cutV]at this
    exact this
theorem RF (b bd:Bs) (hb:b.length≤1000000) (hbd:bd.length≤1000000) (nn:Int) (fr to:Nat):
  Ret 37 [.ref 0 0, .agg [.int .i64 (fr:Nat), .int .i64 (to:Nat)], .str bd] (vE b nn)
   (.tup [.lst 27 false ((dV b fr to bd).1.map cutV),cutV (dV b fr to bd).2, .bool (decide (0<(dV b fr to bd).1.length))],vE b nn):=by
 refine M37 (ofBytes b) nn (fr:Nat) (to:Nat) bd ?_
 simp only[T37]
 refine aB (LZ b hb (fr:Nat) (to:Nat)) ?_
 have h1:=eU fr to b
 simp only[V.getL,Ui]
 exact Ia b bd hb hbd nn (aW fr to b) (by omega) (fr:Nat) (to:Nat) 0 0 fr to (aW fr to b).length 0 [] fr (by omega) (by omega) (by simp)
def ctB:Bs:=[99,111,110,116,101,110,116,45,116,121,112,101]
def NG:Bs:=[99,111,110,116,101,110,116,45,116,114,97,110,115,102,101,114,45,101,110,99,111,100,105,110,103]
def mP (b:Bs) (l:List Fd) (digest:Bool):Bs×Bs×Ps:=
 match xM (tQ b l ctB) true with
 |some p=>p
 |none=>if digest then([109,101,115,115,97,103,101],[114,102,99,56,50,50],[])else([116,101,120,116],[112,108,97,105,110],[])
theorem RG (b:Bs) (hb:b.length≤1000000) (l:List Fd) (hl:l.length≤1000000) (hv:∀f∈l,f.1.length≤1000000) (digest:Bool) (nn:Int):
  Ret 35 [.ref 0 0, .lst 133 false (l.map fdV), .bool digest] (vE b nn)
   (.agg [.str (mP b l digest).1, .str (mP b l digest).2.1, .lst 140 false ((mP b l digest).2.2.map pV)],vE b nn):=by
 refine M35 (ofBytes b) nn (l.map fdV) digest ?_
 simp only[T35]
 refine aB (Ry b hb l hl hv ctB (by simp[ctB])) ?_
 have hle:=CW b l ctB
 simp only[V.getS]
 refine aB (Rj (tQ b l ctB) (by omega) true) ?_
 unfold mP
 cases xM (tQ b l ctB) true with
 |some p=>
  obtain⟨t,u,ps⟩:=p
  simp only[A1,V.getT,Um,Uc,V.getB,if_true,V.cells,V.getS,V.getL]
  exact aD _
 |none=>
  simp only[A1,V.getT,Um,Uc,V.getB,TL,if_false]
  cases digest with
  |true=>simp only[if_true];exact aD _
  |false=>simp only[TL,if_false];exact aD _
def C3 (b:Bs) (l:List Fd):Bool:=
 match nD l NG with
 |none=>true
 |some f=>low (lR b f)==[55,98,105,116]||(low (lR b f)==[56,98,105,116]||low (lR b f)==[98,105,110,97,114,121])
theorem RH (b:Bs) (hb:b.length≤1000000) (l:List Fd) (hl:l.length≤1000000) (hv:∀f∈l,f.1.length≤1000000) (nn:Int):
  Ret 39 [.ref 0 0, .lst 133 false (l.map fdV)] (vE b nn) (.bool (C3 b l),vE b nn):=by
 refine M39 (ofBytes b) nn (l.map fdV) ?_
 simp only[T39]
 refine aB (OA l hl hv NG (by simp[NG])) ?_
 unfold C3
 cases nD l NG with
 |none=>
  simp only[xP,V.getT,Um,Uc,V.getB,UJ,if_true]
  exact aD _
 |some f=>
  have h66:Ret 66 [.lst 5 false (ofBytes b), .agg [.str f.1, .int .i64 f.2.1, .int .i64 f.2.2.1, .int .i64 f.2.2.2]] [] (.str (lR b f),[]):=OC b hb f
  have hle:=Gd b f
  simp only[xP,V.getT,Um,Uc,V.getB,UP,TL,if_false,fdV,V.cells,V.getS,V.getI]
  refine aB h66 ?_
  simp only[V.getS]
  refine aB (CC (lR b f) (by omega)) ?_
  simp only[V.getS,sEq]
  unfold low
  by_cases h1:((lR b f).map eL==[55,98,105,116])=true
  ·simp only[h1,if_true,Bool.true_or];exact aD _
  ·have h1' :((lR b f).map eL==[55,98,105,116])=false:=Bool.eq_false_iff.2 h1
   simp only[h1',TL,if_false,VF]
   by_cases h2:((lR b f).map eL==[56,98,105,116])=true
   ·simp only[h2,if_true,Bool.true_or];exact aD _
   ·have h2' :((lR b f).map eL==[56,98,105,116])=false:=Bool.eq_false_iff.2 h2
    simp only[h2',TL,if_false,VF]
    by_cases h3:((lR b f).map eL==[98,105,110,97,114,121])=true
    ·simp only[h3,if_true];exact aD _
    ·have h3' :((lR b f).map eL==[98,105,110,97,114,121])=false:=Bool.eq_false_iff.2 h3
     simp only[h3',TL,if_false];exact aD _
end Go.Proofs.YtgpofjbdjiajeaaGreatDoor
end
section
namespace Go.Proofs.YtgpofjbdjiajeaaGreatDoor
open Go.Ev Go
def eM (fr at_ to:Nat):Pt:= .mk 0 (fr,at_) (at_,to) [] [] (0,0)
def bdB:Bs:=[98,111,117,110,100,97,114,121]
def mpB:Bs:=[109,117,108,116,105,112,97,114,116]
def NH:Bs:=[109,101,115,115,97,103,101]
def NI:Bs:=[114,102,99,56,50,50]
def dgB:Bs:=[100,105,103,101,115,116]
def mQ (fin:Nat):List (Nat×Nat)→Nat
 |[]=>fin
 |d::_=>d.1
def eV (ent:Nat→Nat→Nat→Pt×Nat) (fin:Nat):List (Nat×Nat)→Nat→List Pt×Nat
 |[],n=>([],n)
 |c::r,n=>
  ((ent c.2 (max (mQ fin r) c.2) n).1::(eV ent fin r (ent c.2 (max (mQ fin r) c.2) n).2).1,(eV ent fin r (ent c.2 (max (mQ fin r) c.2) n).2).2)
def cN (b:Bs):Nat→Nat→Nat→Bool→Nat→Pt×Nat
 |0,fr,to,_,n=>(eM fr (dQ b fr to).2.toNat to,n)
 |d+1,fr,to,dg,n=>
  let at_:=(dQ b fr to).2.toNat
  let v:=mP b (dQ b fr to).1 dg
  let bd:=(getF v.2.2 bdB).getD []
  if v.1=mpB∧bd≠[]∧bd.length≤70 then
   let c:=dV b at_ to bd
   if 0<c.1.length∧n+c.1.length≤1000 then
    let q:=eV (fun fr to n=>cN b d fr to (v.2.1==dgB) n) c.2.1 c.1 (n+c.1.length)
    (.mk 1 (fr,at_) (at_,to) q.1 c.1 c.2,q.2)
   else(eM fr at_ to,n)
  else if v.1=NH∧v.2.1=NI∧C3 b (dQ b fr to).1=true∧n<1000 then
   let k:=cN b d at_ to false (n+1)
   (.mk 2 (fr,at_) (at_,to) [k.1] [] (0,0),k.2)
  else(eM fr at_ to,n)
def NJ (m:Nat) (f:Fd):Prop:=f.1.length≤m
theorem Gi {s:Bs} {p:Bs×Nat} (h:fU s=some p):p.1.length≤s.length:=by
 unfold fU at h
 split at h
 ·cases h
 ·split at h
  ·cases h;simp only[Vo];omega
  ·cases h
theorem L6 (b:Bs) (st:List Fd×Bool) (x:Ln) (h:∀f∈st.1,NJ b.length f):(∀f∈(kA b st x).1,NJ b.length f)∧(kA b st x).1.length≤st.1.length+1:=by
 unfold kA
 split
 ·split
  ·refine⟨fun f hf=>?_,by simp only[pC];omega⟩
   unfold yP at hf
   split at hf
   ·rename_i g hg
    rcases V8 hf with hf|rfl
    ·exact h f hf
    ·exact h g (Uu hg)
   ·exact h f hf
  ·exact⟨h,by omega⟩
 ·split
  ·exact⟨h,by simp⟩
  ·rename_i p hp
   refine⟨fun f hf=>?_,by simp⟩
   rw[TV]at hf
   rcases hf with hf|hf
   ·exact h f hf
   ·simp at hf;subst hf
    exact Uy (Gi hp) (Ba b x)
theorem Bf (b:Bs):∀(l:List Ln) (st:List Fd×Bool),(∀f∈st.1,NJ b.length f)→(∀f∈(l.foldl (kA b) st).1,NJ b.length f)∧(l.foldl (kA b) st).1.length≤st.1.length+l.length
 |[],st,h=>⟨h,by simp⟩
 |x::r,st,h=>by
  obtain⟨h1,h2⟩:=L6 b st x h
  obtain⟨h3,h4⟩:=Bf b r (kA b st x) h1
  exact⟨h3,by simp only[V9,Ua]at h4 ⊢;omega⟩
theorem L8 (b:Bs) (fr to:Int):(∀f∈(dQ b fr to).1,f.1.length≤b.length)∧(dQ b fr to).1.length≤b.length:=by
 have hl:=eU fr to b
 unfold dQ
 split
 ·simp
 ·split
  ·rename_i k hk
   obtain⟨h1,h2⟩:=Bf b ((aW fr to b).take k) ([],false) (by simp)
   exact⟨h1,by simp at h2 ⊢;omega⟩
  ·obtain⟨h1,h2⟩:=Bf b (aW fr to b) ([],false) (by simp)
   exact⟨h1,by simp at h2 ⊢;omega⟩
theorem Gj (b:Bs) (fr to:Nat):(((dQ b fr to).2.toNat:Nat):Int)=(dQ b fr to).2:=by
 unfold dQ
 split
 ·simp
 ·split<;>simp
end Go.Proofs.YtgpofjbdjiajeaaGreatDoor
end
section
namespace Go.Proofs.YtgpofjbdjiajeaaGreatDoor
open Go.Ev Go
abbrev W32:=BitVec 32
def zP:W32:=3988292384#32
def zS (x:W32):W32:=(x >>> 1) ^^^ (if x.getLsbD 0=true then zP else 0#32)
def zN:Nat→W32→W32
 |0,x=>x
 |n+1,x=>zN n (zS x)
theorem L9 (a b:W32):zS (a ^^^ b)=zS a ^^^ zS b:=by
 apply BitVec.eq_of_getLsbD_eq
 intro i hi
 have e0:(a ^^^ b).getLsbD 0=(a.getLsbD 0 ^^ b.getLsbD 0):=BitVec.getLsbD_xor
 unfold zS
 rw[e0]
 simp only[BitVec.getLsbD_xor,BitVec.getLsbD_ushiftRight]
 generalize a.getLsbD (1+i)=p
 generalize b.getLsbD (1+i)=q
 cases a.getLsbD 0<;>cases b.getLsbD 0<;>simp only[Bool.xor_self,Bool.xor_true,Bool.xor_false,UP,UJ,if_true,TL,if_false,BitVec.getLsbD_zero]
 all_goals (generalize zP.getLsbD i=t;cases p<;>cases q<;>cases t<;>rfl)
def fd:Nat→W32→Nat→W32
 |0,x,_=>x
 |n+1,x,c=>fd n (zS (x ^^^ BitVec.ofNat 32 (c % 2))) (c / 2)
theorem Ib:∀(m n:Nat) (x:W32) (c:Nat),fd (m+n) x c=fd n (fd m x c) (c / 2 ^ m)
 |0,n,x,c=>by simp[fd]
 |m+1,n,x,c=>by
  rw[show m+1+n=(m+n)+1 by omega,fd,fd,Ib m n,Nat.div_div_eq_div_mul,Wu,VN 2]
theorem Ek:∀(n:Nat) (x:W32) (c:Nat),fd n x (c % 2 ^ n)=fd n x c
 |0,_,_=>rfl
 |n+1,x,c=>by
  rw[fd,fd,Nat.mod_mod_of_dvd c ⟨2 ^ n,by rw[Wu,VN]⟩]
  rw[show c % 2 ^ (n+1) / 2=c / 2 % 2 ^ n by rw[Wu,VN,Nat.mod_mul_right_div_self],Ek n]
theorem PW (x:W32) {c:Nat} (hc:c<2 ^ 32):zS (x ^^^ BitVec.ofNat 32 c)=zS (x ^^^ BitVec.ofNat 32 (c % 2)) ^^^ BitVec.ofNat 32 (c / 2):=by
 have h:zS (BitVec.ofNat 32 c)=zS (BitVec.ofNat 32 (c % 2)) ^^^ BitVec.ofNat 32 (c / 2):=by
  have e0:(BitVec.ofNat 32 c).getLsbD 0=(BitVec.ofNat 32 (c % 2)).getLsbD 0:=by
   rw[BitVec.getLsbD_ofNat,BitVec.getLsbD_ofNat]
   congr 1
   simp[Nat.testBit_zero]
  unfold zS
  rw[←e0]
  have e1:(BitVec.ofNat 32 (c % 2)) >>> 1=0#32:=by
   rcases Nat.mod_two_eq_zero_or_one c with h|h<;>rw[h]<;>decide
  have e2:(BitVec.ofNat 32 c) >>> 1=BitVec.ofNat 32 (c / 2):=by
   apply BitVec.eq_of_toNat_eq
   rw[BitVec.toNat_ushiftRight,BitVec.toNat_ofNat,BitVec.toNat_ofNat,Vz hc,Vz (by omega),VV]
  rw[e1,e2,BitVec.zero_xor,BitVec.xor_comm]
 rw[L9,L9,h,BitVec.xor_assoc]
theorem IQ:∀(n:Nat) (x:W32) {c:Nat},c<2 ^ 32→zN n (x ^^^ BitVec.ofNat 32 c)=fd n x c ^^^ BitVec.ofNat 32 (c / 2 ^ n)
 |0,x,c,_=>by simp[zN,fd]
 |n+1,x,c,h=>by
  rw[zN,fd,PW x h,IQ n _ (c:=c / 2) (by omega),Nat.div_div_eq_div_mul,Wu,VN 2]
theorem RI {n:Nat} (x:W32) {c:Nat} (h:c<2 ^ 32) (hn:c<2 ^ n):fd n x c=zN n (x ^^^ BitVec.ofNat 32 c):=by
 rw[IQ n x h,Nat.div_eq_of_lt hn]
 simp
theorem NK (y:W32):zN 4 y=(y >>> 4) ^^^ zN 4 (y &&& 15#32):=by
 have h1:=IQ 4 0#32 (c:=y.toNat) y.isLt
 have h2:=IQ 4 0#32 (c:=y.toNat % 16) (by omega)
 have h3:=Ek 4 0#32 y.toNat
 have e1:BitVec.ofNat 32 y.toNat=y:=by simp
 have e2:BitVec.ofNat 32 (y.toNat % 16)=y &&& 15#32:=by
  apply BitVec.eq_of_toNat_eq
  rw[BitVec.toNat_and,BitVec.toNat_ofNat,BitVec.toNat_ofNat]
  rw[show 15 % 2 ^ 32=2 ^ 4 - 1 from rfl,Nat.and_two_pow_sub_one_eq_mod]
  omega
 have e3:BitVec.ofNat 32 (y.toNat / 2 ^ 4)=y >>> 4:=by
  apply BitVec.eq_of_toNat_eq
  rw[BitVec.toNat_ushiftRight,BitVec.toNat_ofNat,VV]
  have:=y.isLt
  omega
 rw[e1,BitVec.zero_xor,e3]at h1
 rw[e2,BitVec.zero_xor,Nat.div_eq_of_lt (show y.toNat % 16<2 ^ 4 by omega)]at h2
 rw[show(2:Nat) ^ 4=16 from rfl]at h3
 rw[h1,h2,h3,BitVec.xor_comm]
 simp
def leN:Bs→Nat
 |[]=>0
 |c::r=>c.toNat+256*leN r
def El (x:W32) (l:Bs):W32:=fd (8*l.length) x (leN l)
def eB (l:Bs):W32:= ~~~ (El (~~~ 0#32) l)
theorem Gk (x:W32):El x []=x:=rfl
theorem Da (x:W32) (c:UInt8) (r:Bs):El x (c::r)=El (fd 8 x c.toNat) r:=by
 unfold El
 rw[Ua,show 8* (r.length+1)=8+8*r.length by omega,Ib,leN]
 have hc:=c.toNat_lt
 have e1:=Ek 8 x (c.toNat+256*leN r)
 rw[show(c.toNat+256*leN r) % 2 ^ 8=c.toNat by omega]at e1
 rw[←e1,show(c.toNat+256*leN r) / 2 ^ 8=leN r by omega]
def le4 (x:Nat):Bs:=[Uo x,Uo (x / 256),Uo (x / 65536),Uo (x / 16777216)]
theorem IR {x:Nat} (h:x<2 ^ 32):leN (le4 x)=x:=by
 simp only[le4,leN,Vm]
 omega
theorem IS (a b c d:UInt8):le4 (leN [a,b,c,d])=[a,b,c,d]:=by
 have ha:=a.toNat_lt;have hb:=b.toNat_lt;have hc:=c.toNat_lt;have hd:=d.toNat_lt
 have e:∀(u:UInt8) (n:Nat),n % 256=u.toNat→Uo n=u:=by
  intro u n hn
  apply Wc.1
  rw[Vm,hn]
 simp only[le4,leN]
 rw[e a _ (by omega),e b _ (by omega),e c _ (by omega),e d _ (by omega)]
end Go.Proofs.YtgpofjbdjiajeaaGreatDoor
end
section
namespace Go.Proofs.YtgpofjbdjiajeaaGreatDoor
open Go.Ev Go
open List (headD tail getD length drop take)
open V (getI getL getT getS getB)
set_option maxRecDepth 100000
variable (call : FuncId → Fun) (icall : aN (V × List Ob)) (again : List It → St → Option (V × List Ob))
def T19 (call:FuncId→Fun) (a0:List V):Option (V×List Ob):=
 TN (call 45 [(V.int Uk (0:Int)),(V.lst 5 false a0)] []) fun z0=>
 some ((V.int Uk (getI z0.1)),[])
def A19 (a0:List V):List V:=[V.lst 5 false a0]
theorem E19 (a0:List V):GO 19 Tryz.f19 (A19 a0) [] call icall again=T19 call a0:=by kernel_rfl
theorem C19 (k:Nat) (a0:List V):aA cfg (k+1) 19 (A19 a0) []=T19 (aA cfg k) a0:=
 (show aA cfg (k+1) 19 (A19 a0) []=GO 19 Tryz.f19 (A19 a0) [] (aA cfg k) (aF cfg (aA cfg k) 20) (RN 19 Tryz.f19 [] (aA cfg k) (aF cfg (aA cfg k) 20) k)by kernel_rfl).trans (E19 _ _ _ a0)
theorem M19 (a0:List V) {r:V×List Ob} (h:Evt (fun k n=>T19 (aA cfg k) a0) r):Ret 19 [V.lst 5 false a0] [] r:=aR (g:=fun k n=>T19 (aA cfg k) a0) (fun k=>C19 k a0) h
def T30 (call:FuncId→Fun) (a0:List UInt8):Option (V×List Ob):=
 TN (call 49 [(V.int Uk (0:Int)),(V.str a0)] []) fun z0=>
 some ((V.int Uk (getI z0.1)),[])
def A30 (a0:List UInt8):List V:=[V.str a0]
theorem E30 (a0:List UInt8):GO 30 Tryz.f30 (A30 a0) [] call icall again=T30 call a0:=by kernel_rfl
theorem C30 (k:Nat) (a0:List UInt8):aA cfg (k+1) 30 (A30 a0) []=T30 (aA cfg k) a0:=
 (show aA cfg (k+1) 30 (A30 a0) []=GO 30 Tryz.f30 (A30 a0) [] (aA cfg k) (aF cfg (aA cfg k) 20) (RN 30 Tryz.f30 [] (aA cfg k) (aF cfg (aA cfg k) 20) k)by kernel_rfl).trans (E30 _ _ _ a0)
theorem M30 (a0:List UInt8) {r:V×List Ob} (h:Evt (fun k n=>T30 (aA cfg k) a0) r):Ret 30 [V.str a0] [] r:=aR (g:=fun k n=>T30 (aA cfg k) a0) (fun k=>C30 k a0) h
def Gl (call:FuncId→Fun) (ag0:Int→Int→List UInt8→Int→Option (V×List Ob)) (i0:Int) (i1:Int) (s2:List UInt8) (i3:Int):Option (V×List Ob):=
 if(decide (i3<i1))=true then
 chk ((256:Int) != 0) (chk (fK s2 (bytesOf [(V.int .u8 (TK .u8 (Vn i0 (256:Int))))])) (chk ((256:Int) != 0) ((ag0 ((TK Wx (Wn i0 (256:Int)))) (i1) ((s2++(bytesOf [(V.int .u8 (TK .u8 (Vn i0 (256:Int))))]))) ((TK .i64 (i3+(1:Int))))))))
 else
 some ((V.str s2),[])
def T29 (call:FuncId→Fun) (ag0:Int→Int→List UInt8→Int→Option (V×List Ob)) (a0:Int) (a1:Int):Option (V×List Ob):=
 (ag0 (a0) (a1) ([]) ((0:Int)))
def A29 (a0:Int) (a1:Int):List V:=[V.int Wx a0,V.int TM a1]
def Db (i0:Int) (i1:Int) (s2:List UInt8) (i3:Int):St:=⟨[(V.int Wx i0),(V.int TM i1),V.bot,V.bot,V.bot,(V.str s2),(V.int TM i3)]++TZ 15 V.bot,[]⟩
theorem RJ (i0:Int) (i1:Int) (s2:List UInt8) (i3:Int):
 RM 29 Tryz.f29 [] call icall again (aJ Tryz.f29 0) (Db i0 i1 s2 i3)=Gl call (fun i0 i1 s2 i3=>again (aJ Tryz.f29 0) (Db i0 i1 s2 i3)) i0 i1 s2 i3:=by kernel_rfl
theorem E29 (a0:Int) (a1:Int):GO 29 Tryz.f29 (A29 a0 a1) [] call icall again=T29 call (fun i0 i1 s2 i3=>again (aJ Tryz.f29 0) (Db i0 i1 s2 i3)) a0 a1:=by kernel_rfl
def L29 (call:FuncId→Fun):Nat→(Int→Int→List UInt8→Int→Option (V×List Ob))
 |0=>fun _ _ _ _=>none
 |n+1=>Gl call (L29 call n)
theorem R29 (call:FuncId→Fun) (icall:aN (V×List Ob)):∀n,(∀(i0:Int) (i1:Int) (s2:List UInt8) (i3:Int),RN 29 Tryz.f29 [] call icall n (aJ Tryz.f29 0) (Db i0 i1 s2 i3)=(L29 call n) i0 i1 s2 i3)
 |0=>fun i0 i1 s2 i3=>rfl
 |n+1=>by
  have ih:=R29 call icall n
  exact fun i0 i1 s2 i3=>(RJ call icall (RN 29 Tryz.f29 [] call icall n) i0 i1 s2 i3).trans (by rw[show(fun i0 i1 s2 i3=>RN 29 Tryz.f29 [] call icall n (aJ Tryz.f29 0) (Db i0 i1 s2 i3))=(L29 call n)from(funext fun i0=>funext fun i1=>funext fun s2=>funext fun i3=>ih i0 i1 s2 i3)];rfl)
theorem C29 (k:Nat) (a0:Int) (a1:Int):aA cfg (k+1) 29 (A29 a0 a1) []=T29 (aA cfg k) (L29 (aA cfg k) k) a0 a1:=by
 have ih:=R29 (aA cfg k) (aF cfg (aA cfg k) 20) k
 refine(show aA cfg (k+1) 29 (A29 a0 a1) []=GO 29 Tryz.f29 (A29 a0 a1) [] (aA cfg k) (aF cfg (aA cfg k) 20) (RN 29 Tryz.f29 [] (aA cfg k) (aF cfg (aA cfg k) 20) k)by kernel_rfl).trans ((E29 _ _ _ a0 a1).trans ?_)
 rw[show(fun i0 i1 s2 i3=>RN 29 Tryz.f29 [] (aA cfg k) (aF cfg (aA cfg k) 20) k (aJ Tryz.f29 0) (Db i0 i1 s2 i3))=(L29 (aA cfg k) k)from(funext fun i0=>funext fun i1=>funext fun s2=>funext fun i3=>ih i0 i1 s2 i3)]
theorem M29 (a0:Int) (a1:Int) {r:V×List Ob} (h:Evt (fun k n=>T29 (aA cfg k) (L29 (aA cfg k) n) a0 a1) r):Ret 29 [V.int Wx a0,V.int TM a1] [] r:=aR (g:=fun k n=>T29 (aA cfg k) (L29 (aA cfg k) n) a0 a1) (fun k=>C29 k a0 a1) h
theorem OI (i0:Int) (i1:Int) (s2:List UInt8) (i3:Int) {r:V×List Ob} (h:Evt (fun k n=>Gl (aA cfg k) (L29 (aA cfg k) n) i0 i1 s2 i3) r):Evt (fun k n=>(L29 (aA cfg k) n) i0 i1 s2 i3) r:=aX (fun k n=>rfl) h
def Gm (call:FuncId→Fun) (ag0:List UInt8→Int→Int→Option (V×List Ob)) (ag1:List UInt8→Int→Int→Int→Int→Option (V×List Ob)) (s0:List UInt8) (i1:Int) (i2:Int):Option (V×List Ob):=
 if(decide (i2<((length s0:Nat):Int)))=true then
 chk (decide (0≤i2)) (chk (decide (i2<((length s0:Nat):Int))) ((ag1 (s0) (i1) (i2) (((UU (getD s0 (TO i2) 0):Nat):Int)) ((0:Int)))))
 else
 some ((V.int Uk (TK Uk ((4294967295:Int) - i1))),[])
def Gn (call:FuncId→Fun) (ag0:List UInt8→Int→Int→Option (V×List Ob)) (ag1:List UInt8→Int→Int→Int→Int→Option (V×List Ob)) (s0:List UInt8) (i1:Int) (i2:Int) (i3:Int) (i4:Int):Option (V×List Ob):=
 if(decide (i4<(8:Int)))=true then
 chk ((2:Int) != 0) (chk ((2:Int) != 0) (chk ((2:Int) != 0) (if((Vn (bits BinOp.xor Uk i1 (TK Uk (Vn i3 (2:Int)))) (2:Int))==(1:Int))=true then
 chk ((2:Int) != 0) ((ag1 (s0) ((bits BinOp.xor Uk (TK Uk (Wn (bits BinOp.xor Uk i1 (TK Uk (Vn i3 (2:Int)))) (2:Int))) (3988292384:Int))) (i2) ((TK .u8 (Wn i3 (2:Int)))) ((TK .i64 (i4+(1:Int))))))
 else
 chk ((2:Int) != 0) ((ag1 (s0) ((TK Uk (Wn (bits BinOp.xor Uk i1 (TK Uk (Vn i3 (2:Int)))) (2:Int)))) (i2) ((TK .u8 (Wn i3 (2:Int)))) ((TK .i64 (i4+(1:Int)))))))))
 else
 (ag0 (s0) (i1) ((TK .i64 (i2+(1:Int)))))
def T49 (call:FuncId→Fun) (ag0:List UInt8→Int→Int→Option (V×List Ob)) (ag1:List UInt8→Int→Int→Int→Int→Option (V×List Ob)) (a0:Int) (a1:List UInt8):Option (V×List Ob):=
 (ag0 (a1) ((TK Uk ((4294967295:Int) - a0))) ((0:Int)))
def A49 (a0:Int) (a1:List UInt8):List V:=[V.int Uk a0,V.str a1]
def yQ (s0:List UInt8) (i1:Int) (i2:Int):St:=⟨[V.bot,(V.str s0),V.bot,V.bot,V.bot,(V.int Uk i1),(V.int TM i2)]++TZ 34 V.bot,[]⟩
def yR (s0:List UInt8) (i1:Int) (i2:Int) (i3:Int) (i4:Int):St:=⟨[V.bot,(V.str s0),V.bot,V.bot,V.bot,(V.int Uk i1),(V.int TM i2),(V.int UT i3),(V.int TM i4)]++TZ 32 V.bot,[]⟩
theorem RL (s0:List UInt8) (i1:Int) (i2:Int):
 RM 49 Tryz.f49 [] call icall again (aJ Tryz.f49 0) (yQ s0 i1 i2)=Gm call (fun s0 i1 i2=>again (aJ Tryz.f49 0) (yQ s0 i1 i2)) (fun s0 i1 i2 i3 i4=>again (aJ Tryz.f49 1) (yR s0 i1 i2 i3 i4)) s0 i1 i2:=by kernel_rfl
theorem RO (s0:List UInt8) (i1:Int) (i2:Int) (i3:Int) (i4:Int):
 RM 49 Tryz.f49 [] call icall again (aJ Tryz.f49 1) (yR s0 i1 i2 i3 i4)=Gn call (fun s0 i1 i2=>again (aJ Tryz.f49 0) (yQ s0 i1 i2)) (fun s0 i1 i2 i3 i4=>again (aJ Tryz.f49 1) (yR s0 i1 i2 i3 i4)) s0 i1 i2 i3 i4:=by kernel_rfl
theorem E49 (a0:Int) (a1:List UInt8):GO 49 Tryz.f49 (A49 a0 a1) [] call icall again=T49 call (fun s0 i1 i2=>again (aJ Tryz.f49 0) (yQ s0 i1 i2)) (fun s0 i1 i2 i3 i4=>again (aJ Tryz.f49 1) (yR s0 i1 i2 i3 i4)) a0 a1:=by kernel_rfl
def L49 (call:FuncId→Fun):Nat→(List UInt8→Int→Int→Option (V×List Ob))×(List UInt8→Int→Int→Int→Int→Option (V×List Ob))
 |0=>⟨fun _ _ _=>none,fun _ _ _ _ _=>none⟩
 |n+1=>⟨Gm call (L49 call n).1 (L49 call n).2,Gn call (L49 call n).1 (L49 call n).2⟩
theorem R49 (call:FuncId→Fun) (icall:aN (V×List Ob)):∀n,(∀(s0:List UInt8) (i1:Int) (i2:Int),RN 49 Tryz.f49 [] call icall n (aJ Tryz.f49 0) (yQ s0 i1 i2)=(L49 call n).1 s0 i1 i2)∧(∀(s0:List UInt8) (i1:Int) (i2:Int) (i3:Int) (i4:Int),RN 49 Tryz.f49 [] call icall n (aJ Tryz.f49 1) (yR s0 i1 i2 i3 i4)=(L49 call n).2 s0 i1 i2 i3 i4)
 |0=>⟨fun s0 i1 i2=>rfl,fun s0 i1 i2 i3 i4=>rfl⟩
 |n+1=>by
  have ih:=R49 call icall n
  exact⟨fun s0 i1 i2=>(RL call icall (RN 49 Tryz.f49 [] call icall n) s0 i1 i2).trans (by rw[show(fun s0 i1 i2=>RN 49 Tryz.f49 [] call icall n (aJ Tryz.f49 0) (yQ s0 i1 i2))=(L49 call n).1 from(funext fun s0=>funext fun i1=>funext fun i2=>ih.1 s0 i1 i2),show(fun s0 i1 i2 i3 i4=>RN 49 Tryz.f49 [] call icall n (aJ Tryz.f49 1) (yR s0 i1 i2 i3 i4))=(L49 call n).2 from(funext fun s0=>funext fun i1=>funext fun i2=>funext fun i3=>funext fun i4=>ih.2 s0 i1 i2 i3 i4)];rfl),
   fun s0 i1 i2 i3 i4=>(RO call icall (RN 49 Tryz.f49 [] call icall n) s0 i1 i2 i3 i4).trans (by rw[show(fun s0 i1 i2=>RN 49 Tryz.f49 [] call icall n (aJ Tryz.f49 0) (yQ s0 i1 i2))=(L49 call n).1 from(funext fun s0=>funext fun i1=>funext fun i2=>ih.1 s0 i1 i2),show(fun s0 i1 i2 i3 i4=>RN 49 Tryz.f49 [] call icall n (aJ Tryz.f49 1) (yR s0 i1 i2 i3 i4))=(L49 call n).2 from(funext fun s0=>funext fun i1=>funext fun i2=>funext fun i3=>funext fun i4=>ih.2 s0 i1 i2 i3 i4)];rfl)⟩
theorem C49 (k:Nat) (a0:Int) (a1:List UInt8):aA cfg (k+1) 49 (A49 a0 a1) []=T49 (aA cfg k) (L49 (aA cfg k) k).1 (L49 (aA cfg k) k).2 a0 a1:=by
 have ih:=R49 (aA cfg k) (aF cfg (aA cfg k) 20) k
 refine(show aA cfg (k+1) 49 (A49 a0 a1) []=GO 49 Tryz.f49 (A49 a0 a1) [] (aA cfg k) (aF cfg (aA cfg k) 20) (RN 49 Tryz.f49 [] (aA cfg k) (aF cfg (aA cfg k) 20) k)by kernel_rfl).trans ((E49 _ _ _ a0 a1).trans ?_)
 rw[show(fun s0 i1 i2=>RN 49 Tryz.f49 [] (aA cfg k) (aF cfg (aA cfg k) 20) k (aJ Tryz.f49 0) (yQ s0 i1 i2))=(L49 (aA cfg k) k).1 from(funext fun s0=>funext fun i1=>funext fun i2=>ih.1 s0 i1 i2),show(fun s0 i1 i2 i3 i4=>RN 49 Tryz.f49 [] (aA cfg k) (aF cfg (aA cfg k) 20) k (aJ Tryz.f49 1) (yR s0 i1 i2 i3 i4))=(L49 (aA cfg k) k).2 from(funext fun s0=>funext fun i1=>funext fun i2=>funext fun i3=>funext fun i4=>ih.2 s0 i1 i2 i3 i4)]
theorem M49 (a0:Int) (a1:List UInt8) {r:V×List Ob} (h:Evt (fun k n=>T49 (aA cfg k) (L49 (aA cfg k) n).1 (L49 (aA cfg k) n).2 a0 a1) r):Ret 49 [V.int Uk a0,V.str a1] [] r:=aR (g:=fun k n=>T49 (aA cfg k) (L49 (aA cfg k) n).1 (L49 (aA cfg k) n).2 a0 a1) (fun k=>C49 k a0 a1) h
theorem OJ (s0:List UInt8) (i1:Int) (i2:Int) {r:V×List Ob} (h:Evt (fun k n=>Gm (aA cfg k) (L49 (aA cfg k) n).1 (L49 (aA cfg k) n).2 s0 i1 i2) r):Evt (fun k n=>(L49 (aA cfg k) n).1 s0 i1 i2) r:=aX (fun k n=>rfl) h
theorem OK (s0:List UInt8) (i1:Int) (i2:Int) (i3:Int) (i4:Int) {r:V×List Ob} (h:Evt (fun k n=>Gn (aA cfg k) (L49 (aA cfg k) n).1 (L49 (aA cfg k) n).2 s0 i1 i2 i3 i4) r):Evt (fun k n=>(L49 (aA cfg k) n).2 s0 i1 i2 i3 i4) r:=aX (fun k n=>rfl) h
def T13 (call:FuncId→Fun) (a0:List UInt8):Option (V×List Ob):=
 TN (call 30 [(V.str a0)] []) fun z0=>
 TN (call 29 [(V.int Wx (TK Wx (getI z0.1))),(V.int .i64 4)] []) fun z1=>
 chk (fK a0 (getS z1.1)) (some ((V.str (a0++(getS z1.1))),[]))
def A13 (a0:List UInt8):List V:=[V.str a0]
theorem E13 (a0:List UInt8):GO 13 Tryz.f13 (A13 a0) [] call icall again=T13 call a0:=by kernel_rfl
theorem C13 (k:Nat) (a0:List UInt8):aA cfg (k+1) 13 (A13 a0) []=T13 (aA cfg k) a0:=
 (show aA cfg (k+1) 13 (A13 a0) []=GO 13 Tryz.f13 (A13 a0) [] (aA cfg k) (aF cfg (aA cfg k) 20) (RN 13 Tryz.f13 [] (aA cfg k) (aF cfg (aA cfg k) 20) k)by kernel_rfl).trans (E13 _ _ _ a0)
theorem M13 (a0:List UInt8) {r:V×List Ob} (h:Evt (fun k n=>T13 (aA cfg k) a0) r):Ret 13 [V.str a0] [] r:=aR (g:=fun k n=>T13 (aA cfg k) a0) (fun k=>C13 k a0) h
end Go.Proofs.YtgpofjbdjiajeaaGreatDoor
end
section
namespace Go.Proofs.YtgpofjbdjiajeaaGreatDoor
open Go.Ev Go
open List (headD tail getD length drop take)
open V (getI getL getT getS getB)
set_option maxRecDepth 100000
variable (call : FuncId → Fun) (icall : aN (V × List Ob)) (again : List It → St → Option (V × List Ob))
def tlN:Nat→List V→List V
 |0,l=>l
 |n+1,l=>tlN n (tail l)
def tbl (t:Nat→Int):List V:=[V.int .u32 (t 0),V.int .u32 (t 1),V.int .u32 (t 2),V.int .u32 (t 3),V.int .u32 (t 4),V.int .u32 (t 5),V.int .u32 (t 6),V.int .u32 (t 7),V.int .u32 (t 8),V.int .u32 (t 9),V.int .u32 (t 10),V.int .u32 (t 11),V.int .u32 (t 12),V.int .u32 (t 13),V.int .u32 (t 14),V.int .u32 (t 15)]
def moK (t:Nat→Int) (b:List V) (n i x:Int) (r1 r2:List V):St:=⟨[V.bot,V.bot,V.bot,V.bot,V.bot,V.ref 0 0,V.int .u32 x]++TZ 7 V.bot++[V.lst 5 false b,V.int .i64 n,V.int .i64 i]++r1++r2,[Ob.cells (tbl t)]⟩
def moO (t:Nat→Int) (b:List V) (n i x:Int):St:=moK t b n i x (TZ 26 V.bot) []
def moI (f0 f1 k:Int) (t:Nat→Int) (b:List V) (n i x:Int):St:=moK t b n i x (TZ 9 V.bot) ([V.agg [V.int .u32 f0,V.int .u32 f1],V.int .i64 k]++TZ 15 V.bot)
def Ke (x f:Int):Int:=bits BinOp.and Uk (bits BinOp.xor Uk x f) (15:Int)
def moS (ag:Int→Option (V×List Ob)) (t:Nat→Int) (x f:Int):Option (V×List Ob):=
 chk (decide (0≤(4:Int))) (chk (decide (0≤Ke x f∧Ke x f<((16:Nat):Int))) (chk (decide (0+TO (Ke x f)*1<length (tbl t)))
  (ag (bits BinOp.xor Uk (V3 x (2 ^ min (TO (4:Int)) (Uz Uk))) (getI (getD (tbl t) (0+TO (Ke x f)*1) V.bot))))))
def moT (ag:Int→Int→Option (V×List Ob)) (b:List V) (n i x:Int):Option (V×List Ob):=
 if(decide (i<n))=true then chk (decide (0≤i)) (chk (decide (i<((length b:Nat):Int))) (chk (decide (0≤(4:Int)))
  (ag (TK Uk (bits BinOp.and UT (getI (getD b (TO i) V.bot)) (15:Int))) (TK Uk (V3 (getI (getD b (TO i) V.bot)) (2 ^ min (TO (4:Int)) (Uz UT)))))))
 else some (V.int .u32 (bits BinOp.xor Uk (Wy Uk) x),[])
theorem Tt (t:Nat→Int) (f0 f1:Int) (b:List V) (n i x:Int):RM 45 Tryz.f45 [] call icall again (aJ Tryz.f45 1) (moI f0 f1 0 t b n i x)=moS (fun x=>again (aJ Tryz.f45 1) (moI f0 f1 1 t b n i x)) t x f0:=by kernel_rfl
theorem Tu (t:Nat→Int) (f0 f1:Int) (b:List V) (n i x:Int):RM 45 Tryz.f45 [] call icall again (aJ Tryz.f45 1) (moI f0 f1 1 t b n i x)=moS (fun x=>again (aJ Tryz.f45 1) (moI f0 f1 2 t b n i x)) t x f1:=by kernel_rfl
theorem Tv (t:Nat→Int) (f0 f1:Int) (b:List V) (n i x:Int):RM 45 Tryz.f45 [] call icall again (aJ Tryz.f45 1) (moI f0 f1 2 t b n i x)=again (aJ Tryz.f45 0) (moO t b n (TK TM (i+(1:Int))) x):=by kernel_rfl
theorem Tw (t:Nat→Int) (b:List V) (n i x:Int):RM 45 Tryz.f45 [] call icall again (aJ Tryz.f45 0) (moO t b n i x)=moT (fun f0 f1=>again (aJ Tryz.f45 1) (moI f0 f1 0 t b n i x)) b n i x:=by kernel_rfl
def tOf (z:V×List Ob) (j:Nat):Int:=getI (headD (tlN j (V.cells z.1)) V.bot)
theorem moE (s:Int) (b:List V):GO 45 Tryz.f45 [V.int .u32 s,V.lst 5 false b] [] call icall again=TN (call 71 [] []) fun z=>again (aJ Tryz.f45 0) (moO (tOf z) b ((length b:Nat):Int) 0 (bits BinOp.xor Uk (Wy Uk) s)):=by kernel_rfl
def moL:Nat→((Nat→Int)→List V→Int→Int→Int→Option (V×List Ob))×(Int→Int→(Nat→Int)→List V→Int→Int→Int→Option (V×List Ob))×(Int→Int→(Nat→Int)→List V→Int→Int→Int→Option (V×List Ob))×(Int→Int→(Nat→Int)→List V→Int→Int→Int→Option (V×List Ob))
 |0=>(fun _ _ _ _ _=>none,fun _ _ _ _ _ _ _=>none,fun _ _ _ _ _ _ _=>none,fun _ _ _ _ _ _ _=>none)
 |k+1=>(fun t b n i x=>moT (fun f0 f1=>(moL k).2.1 f0 f1 t b n i x) b n i x,
   fun f0 f1 t b n i x=>moS (fun x=>(moL k).2.2.1 f0 f1 t b n i x) t x f0,
   fun f0 f1 t b n i x=>moS (fun x=>(moL k).2.2.2 f0 f1 t b n i x) t x f1,
   fun _ _ t b n i x=>(moL k).1 t b n (TK TM (i+(1:Int))) x)
theorem moR:∀k:Nat,(∀t b n i x,RN 45 Tryz.f45 [] call icall k (aJ Tryz.f45 0) (moO t b n i x)=(moL k).1 t b n i x)∧
  (∀f0 f1 t b n i x,RN 45 Tryz.f45 [] call icall k (aJ Tryz.f45 1) (moI f0 f1 0 t b n i x)=(moL k).2.1 f0 f1 t b n i x)∧
  (∀f0 f1 t b n i x,RN 45 Tryz.f45 [] call icall k (aJ Tryz.f45 1) (moI f0 f1 1 t b n i x)=(moL k).2.2.1 f0 f1 t b n i x)∧
  (∀f0 f1 t b n i x,RN 45 Tryz.f45 [] call icall k (aJ Tryz.f45 1) (moI f0 f1 2 t b n i x)=(moL k).2.2.2 f0 f1 t b n i x)
 |0=>⟨fun _ _ _ _ _=>rfl,fun _ _ _ _ _ _ _=>rfl,fun _ _ _ _ _ _ _=>rfl,fun _ _ _ _ _ _ _=>rfl⟩
 |k+1=>by
  obtain⟨h1,h2,h3,h4⟩:=moR k
  refine⟨fun t b n i x=>?_,fun f0 f1 t b n i x=>?_,fun f0 f1 t b n i x=>?_,fun f0 f1 t b n i x=>?_⟩
  ·refine(Tw call icall (RN 45 Tryz.f45 [] call icall k) t b n i x).trans ?_
   simp only[h2]
   rfl
  ·refine(Tt call icall (RN 45 Tryz.f45 [] call icall k) t f0 f1 b n i x).trans ?_
   simp only[h3]
   rfl
  ·refine(Tu call icall (RN 45 Tryz.f45 [] call icall k) t f0 f1 b n i x).trans ?_
   simp only[h4]
   rfl
  ·refine(Tv call icall (RN 45 Tryz.f45 [] call icall k) t f0 f1 b n i x).trans ?_
   simp only[h1]
   rfl
theorem M45 (s:Int) (b:List V) {res:V×List Ob} (h:Evt (fun k n=>TN (aA cfg k 71 [] []) fun z=>(moL n).1 (tOf z) b ((length b:Nat):Int) 0 (bits BinOp.xor Uk (Wy Uk) s)) res):Ret 45 [V.int .u32 s,V.lst 5 false b] [] res:=by
 refine aR (g:=fun k n=>TN (aA cfg k 71 [] []) fun z=>(moL n).1 (tOf z) b ((length b:Nat):Int) 0 (bits BinOp.xor Uk (Wy Uk) s)) (fun k=>?_) h
 refine(show aA cfg (k+1) 45 [V.int .u32 s,V.lst 5 false b] []=GO 45 Tryz.f45 [V.int .u32 s,V.lst 5 false b] [] (aA cfg k) (aF cfg (aA cfg k) 20) (RN 45 Tryz.f45 [] (aA cfg k) (aF cfg (aA cfg k) 20) k)by kernel_rfl).trans ?_
 rw[moE]
 congr 1
 funext z
 exact(moR (aA cfg k) (aF cfg (aA cfg k) 20) k).1 _ _ _ _ _
def tV:List V:=[.int .u32 0, .int .u32 498536548, .int .u32 997073096, .int .u32 651767980, .int .u32 1994146192, .int .u32 1802195444, .int .u32 1303535960, .int .u32 1342533948, .int .u32 3988292384, .int .u32 4027552580, .int .u32 3604390888, .int .u32 3412177804, .int .u32 2607071920, .int .u32 2262029012, .int .u32 2685067896, .int .u32 3183342108]
theorem Ma {f:FuncId} {args:List V} {objs:List Ob} {r:V×List Ob} (K:Nat) (h:∀m,aA cfg (m+K) f args objs=some r):Ret f args objs r:=
 ⟨K,fun k hk=>by obtain⟨m,rfl⟩:∃m,k=m+K:=⟨k - K,by omega⟩;exact h m⟩
theorem RP:Ret 71 [] [] (.agg tV,[]):=Ma 40 fun m=>by kernel_rfl
end Go.Proofs.YtgpofjbdjiajeaaGreatDoor
end
section
namespace Go.Proofs.YtgpofjbdjiajeaaGreatDoor
open Go.Ev Go
theorem Bg (l:Ps) (m:Nat):∀(q:Ps) (seen:List Bs),(∀p∈q,p.1.length≤m)→(sB l seen q).length≤q.length∧∀p∈sB l seen q,p.1.length≤m
 |[],seen,_=>by simp[sB]
 |p::r,seen,h=>by
  have hp:=h p (by simp)
  have hb:=F2 p.1
  have ih:=fun seen=>Bg l m r seen fun p hp=>h p (by simp[hp])
  unfold sB
  split
  ·obtain⟨h1,h2⟩:=ih seen
   exact⟨by simp;omega,h2⟩
  ·split
   ·obtain⟨h1,h2⟩:=ih (dU p.1::seen)
    refine⟨by simp;omega,fun x hx=>?_⟩
    rcases UH.1 hx with rfl|hx
    ·simp only;omega
    ·exact h2 x hx
   ·obtain⟨h1,h2⟩:=ih (dU p.1::seen)
    exact⟨by simp;omega,h2⟩
theorem Em {s:Bs} {two:Bool} {t u:Bs} {ps:Ps} (h:xM s two=some (t,u,ps)):ps.length≤s.length∧∀p∈ps,p.1.length≤s.length:=by
 have key:∀q:Bs,q.length≤s.length→(sB (dI q) [] (dI q)).length≤s.length∧∀p∈sB (dI q) [] (dI q),p.1.length≤s.length:=by
  intro q hq
  obtain⟨g1,g2⟩:=vC q.length q (TY _)
  obtain⟨h1,h2⟩:=Bg (dI q) s.length (dI q) [] fun p hp=>by have:=g2 p hp;omega
  exact⟨by omega,h2⟩
 have h0:=qT s
 have h1:=mN (dH s)
 unfold xM at h
 split at h
 ·cases h
 ·split at h
  ·split at h
   ·cases h
   ·rename_i s2 hs2
    split at h
    ·cases h
    ·cases h
     have h2:=jY hs2
     have h3:=mN s2
     exact key _ (by omega)
  ·cases h
   exact key _ (by omega)
theorem Gp (b:Bs) (l:List Fd) (dg:Bool):(mP b l dg).2.2.length≤b.length∧∀p∈(mP b l dg).2.2,p.1.length≤b.length:=by
 have hv:=CW b l ctB
 unfold mP
 split
 ·rename_i p hp
  obtain⟨t,u,ps⟩:=p
  obtain⟨h1,h2⟩:=Em hp
  exact⟨by simp only;omega,fun p hp=>by have:=h2 p hp;omega⟩
 ·split<;>simp
end Go.Proofs.YtgpofjbdjiajeaaGreatDoor
end
section
namespace Go.Proofs.YtgpofjbdjiajeaaGreatDoor
open Go.Ev Go
theorem IT {ent:Nat→Nat→Nat→Pt×Nat} (h:∀fr to n,n≤1000→(ent fr to n).2≤1000) (fin:Nat):∀(cs:List (Nat×Nat)) (n:Nat),n≤1000→(eV ent fin cs n).2≤1000
 |[],n,hn=>hn
 |c::r,n,hn=>by
  unfold eV
  exact IT h fin r _ (h _ _ _ hn)
theorem Bh (b:Bs):∀(d fr to:Nat) (dg:Bool) (n:Nat),n≤1000→(cN b d fr to dg n).2≤1000
 |0,fr,to,dg,n,hn=>by simpa[cN]using hn
 |d+1,fr,to,dg,n,hn=>by
  unfold cN
  simp only
  split
  ·split
   ·rename_i h
    exact IT (fun fr to n hn=>Bh b d fr to _ n hn) _ _ _ h.2
   ·exact hn
  ·split
   ·rename_i h
    exact Bh b d _ _ _ _ (by have:=h.2.2.2;omega)
   ·exact hn
def xQ (b:Bs) (d:Nat):Prop:=∀(fr to n:Nat) (dg:Bool),n≤1000→
 Ret 15 [.ref 0 0, .agg [.int .i64 (fr:Nat), .int .i64 (to:Nat)], .int .i64 ((32 - d:Nat):Int), .bool dg] (vE b (n:Nat)) (partV (cN b d fr to dg n).1,vE b ((cN b d fr to dg n).2:Nat))
def Mb (k h1 h2 b1 b2:Int) (kids:List V) (cs:List (Nat×Nat)) (e1 e2:Int):Ob:=
 .cells [.int .i64 k, .int .i64 h1, .int .i64 h2, .int .i64 b1, .int .i64 b2, .lst 31 true kids, .lst 27 false (cs.map cutV), .int .i64 e1, .int .i64 e2]
theorem Bi {l:List (Nat×Nat)} {i:Nat} (h:i<l.length):(l.map cutV).getD i .bot=cutV l[i]:=by simp[Ul,h]
theorem cU (p:Pt):V.agg [V.int .i64 (V.getI (UL (V.cells (partV p)) V.bot)),V.int .i64 (V.getI (UL (Uf (V.cells (partV p))) V.bot)),V.int .i64 (V.getI (UL (Uf (Uf (V.cells (partV p)))) V.bot)),
  V.int .i64 (V.getI (UL (Uf (Uf (Uf (V.cells (partV p))))) V.bot)),V.int .i64 (V.getI (UL (Uf (Uf (Uf (Uf (V.cells (partV p)))))) V.bot)),
  V.lst 31 false (V.getL (UL (Uf (Uf (Uf (Uf (Uf (V.cells (partV p))))))) V.bot)),V.lst 27 false (V.getL (UL (Uf (Uf (Uf (Uf (Uf (Uf (V.cells (partV p)))))))) V.bot)),
  V.int .i64 (V.getI (UL (Uf (Uf (Uf (Uf (Uf (Uf (Uf (V.cells (partV p))))))))) V.bot)),V.int .i64 (V.getI (UL (Uf (Uf (Uf (Uf (Uf (Uf (Uf (Uf (V.cells (partV p)))))))))) V.bot))]=partV p:=by
 cases p;rw[partV];rfl
theorem En (x y:Nat):(if((y:Nat):Int)>((x:Nat):Int)then((y:Nat):Int)else((x:Nat):Int))=((max x y:Nat):Int):=by
 split<;>omega
theorem Mc (b:Bs) (d:Nat) (he:xQ b d) (dg:Bool) (cs:List (Nat×Nat)) (hcs:cs.length≤1000) (h1 h2 b1 b2:Int) (e1 e2:Nat):∀(m i:Nat) (kids:List Pt) (n:Nat),cs.length - i=m→i≤cs.length→kids.length=i→n≤1000→
  Evt (fun k j=>L38 (aA cfg k) j ((32 - d:Nat):Int) dg (cs.map cutV) (cs.length:Nat) (i:Nat) (ofBytes b) (n:Nat) 1 h1 h2 b1 b2 (kids.map partV) (cs.map cutV) (e1:Nat) (e2:Nat))
   (.tup [],[.cells [.lst 5 false (ofBytes b), .int .i64 ((eV (fun fr to n=>cN b d fr to dg n) e1 (cs.drop i) n).2:Nat)],Mb 1 h1 h2 b1 b2 ((kids++(eV (fun fr to n=>cN b d fr to dg n) e1 (cs.drop i) n).1).map partV) cs (e1:Nat) (e2:Nat)])
 |0,i,kids,n,h,hi,hk,hn=>by
  refine OE ((32 - d:Nat):Int) dg (cs.map cutV) (cs.length:Nat) (i:Nat) (ofBytes b) (n:Nat) 1 h1 h2 b1 b2 (kids.map partV) (cs.map cutV) (e1:Nat) (e2:Nat) ?_
  have g1:¬((i:Int)<(cs.length:Int)):=by omega
  rw[UB (by omega)]
  simp only[CY,g1,decide_false,TL,if_false,eV,UI,Mb]
  exact aD _
 |m+1,i,kids,n,h,hi,hk,hn=>by
  have hlt:i<cs.length:=by omega
  refine OE ((32 - d:Nat):Int) dg (cs.map cutV) (cs.length:Nat) (i:Nat) (ofBytes b) (n:Nat) 1 h1 h2 b1 b2 (kids.map partV) (cs.map cutV) (e1:Nat) (e2:Nat) ?_
  have g1:((i:Int)<(cs.length:Int)):=by omega
  have g2:(0:Int)≤(i:Int):=by omega
  have hw:TK .i64 ((i:Int)+1)=((i+1:Nat):Int):=by rw[wrap64 (by omega) (by omega)];omega
  have hd:cs.drop i=cs[i]::cs.drop (i+1):=UM hlt
  have hap:∀v:V,cE (kids.map partV) [v] 105=true:=fun v=>gB (by simp;omega)
  have hkl:((((kids.map partV).length:Nat):Int)==(((kids.map partV).length:Nat):Int))=true:=by simp
  rw[hd]
  have fin:∀x:Nat,mQ e1 (cs.drop (i+1))=x→
    Evt (fun k j=>TN (aA cfg k 15 [.ref 0 0, .agg [.int .i64 (cs[i].2:Nat), .int .i64 ((max x cs[i].2:Nat):Int)], .int .i64 ((32 - d:Nat):Int), .bool dg] (vE b (n:Nat))) fun z0=>
     L38 (aA cfg k) j ((32 - d:Nat):Int) dg (cs.map cutV) (cs.length:Nat) ((i+1:Nat):Int) ((V.getL (UL (Ob.getC (UL z0.2 Ob.dead)) V.bot))) ((V.getI (UL (Uf (Ob.getC (UL z0.2 Ob.dead))) V.bot))) 1 h1 h2 b1 b2 (kids.map partV++[V.agg [V.int .i64 (V.getI (UL (V.cells z0.1) V.bot)),V.int .i64 (V.getI (UL (Uf (V.cells z0.1)) V.bot)),V.int .i64 (V.getI (UL (Uf (Uf (V.cells z0.1))) V.bot)),V.int .i64 (V.getI (UL (Uf (Uf (Uf (V.cells z0.1)))) V.bot)),V.int .i64 (V.getI (UL (Uf (Uf (Uf (Uf (V.cells z0.1))))) V.bot)),V.lst 31 false (V.getL (UL (Uf (Uf (Uf (Uf (Uf (V.cells z0.1)))))) V.bot)),V.lst 27 false (V.getL (UL (Uf (Uf (Uf (Uf (Uf (Uf (V.cells z0.1))))))) V.bot)),V.int .i64 (V.getI (UL (Uf (Uf (Uf (Uf (Uf (Uf (Uf (V.cells z0.1)))))))) V.bot)),V.int .i64 (V.getI (UL (Uf (Uf (Uf (Uf (Uf (Uf (Uf (Uf (V.cells z0.1))))))))) V.bot))]]) (cs.map cutV) (e1:Nat) (e2:Nat))
    (.tup [],[.cells [.lst 5 false (ofBytes b), .int .i64 ((eV (fun fr to n=>cN b d fr to dg n) e1 (cs[i]::cs.drop (i+1)) n).2:Nat)],Mb 1 h1 h2 b1 b2 ((kids++(eV (fun fr to n=>cN b d fr to dg n) e1 (cs[i]::cs.drop (i+1)) n).1).map partV) cs (e1:Nat) (e2:Nat)]):=by
   intro x hx
   refine aB (he cs[i].2 (max x cs[i].2) n dg hn) ?_
   have:=Mc b d he dg cs hcs h1 h2 b1 b2 e1 e2 m (i+1) (kids++[(cN b d cs[i].2 (max x cs[i].2) dg n).1]) (cN b d cs[i].2 (max x cs[i].2) dg n).2 (by omega) (by omega) (by simp[hk]) (Bh b d _ _ _ _ hn)
   unfold eV
   rw[hx]
   simp only[cU]
   simp only[V0,UE,VL,Ud,Vt]at this ⊢
   exact this
  by_cases hn1:i+1<cs.length
  ·have q1:(((i+1:Nat):Int)<(cs.length:Int)):=by omega
   have q2:(0:Int)≤((i+1:Nat):Int):=by omega
   simp only[CY,g1,decide_true,if_true,aI g2,Ui,cR,hw,q1,aI q2,TW,Bi hlt,Bi hn1,cutV,V.cells,Uc,Um,V.getI,En,beq_self_eq_true,cZ (hap _)]
   exact fin cs[i+1].1 (by rw[UM hn1];rfl)
  ·have q1:¬(((i+1:Nat):Int)<(cs.length:Int)):=by omega
   simp only[CY,g1,decide_true,decide_false,TL,if_false,if_true,aI g2,Ui,cR,hw,q1,TW,Bi hlt,cutV,V.cells,Uc,Um,V.getI,En,beq_self_eq_true,cZ (hap _)]
   exact fin e1 (by rw[UB (by omega)];rfl)
end Go.Proofs.YtgpofjbdjiajeaaGreatDoor
end
section
namespace Go.Proofs.YtgpofjbdjiajeaaGreatDoor
open Go.Ev Go
theorem RQ (b:Bs) (d:Nat) (he:xQ b d) (dg:Bool) (cs:List (Nat×Nat)) (hcs:cs.length≤1000) (h1 h2 b1 b2:Int) (e1 e2:Nat) (n:Nat) (hn:n≤1000):
  Ret 38 [.ref 0 0, .ref 1 0, .int .i64 ((32 - d:Nat):Int), .bool dg] [.cells [.lst 5 false (ofBytes b), .int .i64 (n:Nat)],Mb 1 h1 h2 b1 b2 [] cs (e1:Nat) (e2:Nat)]
   (.tup [],[.cells [.lst 5 false (ofBytes b), .int .i64 ((eV (fun fr to n=>cN b d fr to dg n) e1 cs n).2:Nat)],Mb 1 h1 h2 b1 b2 ((eV (fun fr to n=>cN b d fr to dg n) e1 cs n).1.map partV) cs (e1:Nat) (e2:Nat)]):=by
 refine M38 (ofBytes b) (n:Nat) 1 h1 h2 b1 b2 [] (cs.map cutV) (e1:Nat) (e2:Nat) ((32 - d:Nat):Int) dg ?_
 simp only[T38,Ui]
 have:=Mc b d he dg cs hcs h1 h2 b1 b2 e1 e2 cs.length 0 [] n (by omega) (by omega) rfl hn
 simpa using this
theorem RR (b:Bs) (hb:b.length≤100000):xQ b 0:=by
 intro fr to n dg hn
 refine M15 (ofBytes b) (n:Nat) (fr:Nat) (to:Nat) ((32 - 0:Nat):Int) dg ?_
 simp only[T15]
 refine aB (Oz b (by omega) (fr:Nat) (to:Nat)) ?_
 have h1:((((32 - 0:Nat):Int))==(32:Int))=true:=rfl
 simp only[h1,if_true,V.getT,Uc,Um,V.getI]
 rw[←Gj]
 exact aD _
theorem pE (b bd:Bs):∀(l:List Ln) (out:List (Nat×Nat)) (fr:Nat),(fH b bd l out fr).1.length≤out.length+l.length
 |[],out,fr=>by simp[fH]
 |x::r,out,fr=>by
  unfold fH
  split
  ·have:=pE b bd r out x.2.1;simp only[Ua];omega
  ·split
   ·simp
   ·have:=pE b bd r (out++[(fr,x.2.2)]) x.2.2;simp only[Ug,Ua,Uh]at this ⊢;omega
theorem vF (b:Bs) (fr to:Nat) (bd:Bs):(dV b fr to bd).1.length≤b.length:=by
 have h1:=eU fr to b
 have h2:=pE b bd (aW fr to b) [] fr
 unfold dV;simp at h2;simp only;omega
theorem dF (k:IntKind) (z:Int):(V.int k z).getI=z:=rfl
theorem bM (t:TypeId) (o:Bool) (l:List V):(V.lst t o l).getL=l:=rfl
theorem jI (x:Bool):(V.bool x).getB=x:=rfl
theorem vG (x:Bs):(V.str x).getS=x:=rfl
theorem fC (l:List V):(V.tup l).getT=l:=rfl
theorem Kf (l:List V):(V.agg l).cells=l:=rfl
theorem Md (fr at_ to:Nat):partV (eM fr at_ to)= .agg [.int .i64 0, .int .i64 (fr:Nat), .int .i64 (at_:Nat), .int .i64 (at_:Nat), .int .i64 (to:Nat), .lst 31 false [], .lst 27 false [], .int .i64 0, .int .i64 0]:=by
 unfold eM;rw[partV];rfl
theorem IU {α β:Type} {o:Option β} {v:β} {F:Nat→Nat→β→Option α} {r:α} (h:o=some v) (h2:Evt (fun k n=>F k n v) r):Evt (fun k n=>TN o (F k n)) r:=by subst h;exact h2
theorem RS (b:Bs) (hb:b.length≤100000) (d:Nat) (hd:d+1≤32) (he:xQ b d):xQ b (d+1):=by
 intro fr to n dg hn
 refine M15 (ofBytes b) (n:Nat) (fr:Nat) (to:Nat) ((32 - (d+1):Nat):Int) dg ?_
 simp only[T15]
 refine aB (Oz b (by omega) (fr:Nat) (to:Nat)) ?_
 obtain⟨k1,k2⟩:=L8 b (fr:Nat) (to:Nat)
 have h1:((((32 - (d+1):Nat):Int))==(32:Int))=false:=beq_eq_false_iff_ne.2 (by omega)
 have hw:TK .i64 (((32 - (d+1):Nat):Int)+1)=((32 - d:Nat):Int):=by rw[wrap64 (by omega) (by omega)];omega
 simp only[h1,TL,if_false,fC,Uc,Um,dF,bM,hw]
 rw[←Gj]
 generalize hat:(dQ b (fr:Nat) (to:Nat)).2.toNat=at_
 generalize hfl:(dQ b (fr:Nat) (to:Nat)).1=l at k1 k2
 refine aB (RG b (by omega) l (by omega) (fun f hf=>by have:=k1 f hf;omega) dg (n:Nat)) ?_
 obtain⟨m1,m2⟩:=Gp b l dg
 generalize hv:mP b l dg=v at m1 m2
 obtain⟨t,u,ps⟩:=v
 simp only at m1 m2
 simp only[Kf,vG,bM,Uc,Um]
 refine aB (Rk t u ps (by omega) (fun p hp=>by have:=m2 p hp;omega) bdB (by simp[bdB])) ?_
 simp only[fC,vG,Uc]
 have hent:cN b (d+1) fr to dg n=(if t=mpB∧(getF ps bdB).getD []≠[]∧((getF ps bdB).getD []).length≤70 then
   if 0<(dV b at_ to ((getF ps bdB).getD [])).1.length∧n+(dV b at_ to ((getF ps bdB).getD [])).1.length≤1000 then
    (Pt.mk 1 (fr,at_) (at_,to) (eV (fun fr to n=>cN b d fr to (u==dgB) n) (dV b at_ to ((getF ps bdB).getD [])).2.1 (dV b at_ to ((getF ps bdB).getD [])).1 (n+(dV b at_ to ((getF ps bdB).getD [])).1.length)).1 (dV b at_ to ((getF ps bdB).getD [])).1 (dV b at_ to ((getF ps bdB).getD [])).2,
     (eV (fun fr to n=>cN b d fr to (u==dgB) n) (dV b at_ to ((getF ps bdB).getD [])).2.1 (dV b at_ to ((getF ps bdB).getD [])).1 (n+(dV b at_ to ((getF ps bdB).getD [])).1.length)).2)
   else(eM fr at_ to,n)
  else if t=NH∧u=NI∧C3 b l=true∧n<1000 then(Pt.mk 2 (fr,at_) (at_,to) [(cN b d at_ to false (n+1)).1] [] (0,0),(cN b d at_ to false (n+1)).2)
  else(eM fr at_ to,n)):=by
  rw[cN]
  simp only[hat,hfl,hv]
 rw[hent]
 generalize hbd:(getF ps bdB).getD []=bd
 have hsq:∀x y:Bs,sEq x y=decide (x=y):=fun x y=>by
  by_cases h:x=y
  ·subst h;simp[sEq]
  ·simp[sEq,h]
 have leaf:∀x:Int,x=(n:Int)→Evt (fun _ _=>some (V.agg [.int .i64 0, .int .i64 (fr:Nat), .int .i64 (at_:Nat), .int .i64 (at_:Nat), .int .i64 (to:Nat), .lst 31 false [], .lst 27 false [], .int .i64 0, .int .i64 0],
   [Ob.cells [.lst 5 false (ofBytes b), .int .i64 x]])) (partV (eM fr at_ to),vE b (n:Nat)):=by
  intro x hx
  subst hx
  rw[Md]
  exact aD _
 have hy3:(if sEq t [109,117,108,116,105,112,97,114,116]=true then(if(!(sEq bd []))=true then some (decide (((bd.length:Nat):Int)≤(70:Int)))else some false)else some false)=some (decide (t=mpB∧bd≠[]∧bd.length≤70)):=by
  have e1:sEq t [109,117,108,116,105,112,97,114,116]=decide (t=mpB):=hsq t mpB
  rw[e1,hsq bd []]
  by_cases c1:t=mpB
  ·by_cases c2:bd=[]
   ·simp[c1,c2]
   ·by_cases c3:bd.length≤70
    ·have:((bd.length:Nat):Int)≤70:=by omega
     simp[c1,c2,c3,this]
    ·have:¬(((bd.length:Nat):Int)≤70):=by omega
     simp[c1,c2,c3,this]
  ·simp[c1]
 refine IU hy3 ?_
 by_cases hc:t=mpB∧bd≠[]∧bd.length≤70
 ·rw[if_pos hc]
  simp only[decide_eq_true hc,if_true]
  refine aB (RF b bd (by omega) (by have:=hc.2.2;omega) (n:Nat) at_ to) ?_
  have hcl:=vF b at_ to bd
  generalize hcu:dV b at_ to bd=cu at hcl
  obtain⟨cs,e1,e2⟩:=cu
  simp only at hcl
  have hwn:TK .i64 ((n:Int)+((cs.length:Nat):Int))=((n+cs.length:Nat):Int):=by rw[wrap64 (by omega) (by omega)];omega
  simp only[V.getT,Uc,Um,V.getB,V.getL,vE,Ob.getC,V.getI,cutV,V.cells,Ui,hwn]
  have hy5:(if decide (0<cs.length)=true then some (decide (((n+cs.length:Nat):Int)≤(1000:Int)))else some false)=some (decide (0<cs.length∧n+cs.length≤1000)):=by
   by_cases c1:0<cs.length
   ·by_cases c2:n+cs.length≤1000
    ·have:((n+cs.length:Nat):Int)≤1000:=by omega
     simp only[c1,c2,this,decide_true,if_true,and_self]
    ·have:¬(((n+cs.length:Nat):Int)≤1000):=by omega
     simp only[c1,c2,this,decide_true,decide_false,if_true,and_false]
   ·simp only[c1,decide_false,TL,if_false,false_and]
  refine IU hy5 ?_
  by_cases hc2:0<cs.length∧n+cs.length≤1000
  ·rw[if_pos hc2]
   simp only[decide_eq_true hc2,if_true]
   refine aB (RQ b d he (u==dgB) cs (by omega) (fr:Nat) (at_:Nat) (at_:Nat) (to:Nat) e1 e2 (n+cs.length) hc2.2) ?_
   rw[partV,fD]
   exact aD _
  ·rw[if_neg hc2]
   simp only[decide_eq_false hc2,TL,if_false]
   exact leaf _ rfl
 ·rw[if_neg hc]
  simp only[decide_eq_false hc,TL,if_false]
  by_cases t1:t=NH
  ·by_cases t2:u=NI
   ·have s1:sEq t [109,101,115,115,97,103,101]=true:=by rw[hsq];exact decide_eq_true t1
    have s2:sEq u [114,102,99,56,50,50]=true:=by rw[hsq];exact decide_eq_true t2
    simp only[s1,s2,if_true]
    refine aB (RH b (by omega) l (by omega) (fun f hf=>by have:=k1 f hf;omega) (n:Nat)) ?_
    simp only[jI,vE,Ob.getC,Uc,Um,dF,bM]
    by_cases t3:C3 b l=true
    ·by_cases t4:n<1000
     ·have t4' :((n:Nat):Int)<1000:=by omega
      have hwn:TK .i64 ((n:Int)+1)=((n+1:Nat):Int):=by rw[wrap64 (by omega) (by omega)];omega
      rw[if_pos ⟨t1,t2,t3,t4⟩]
      simp only[t3,if_true,t4',decide_true,hwn]
      refine aB (he at_ to (n+1) false (by omega)) ?_
      simp only[cU]
      rw[partV,gV,gV]
      exact aD _
     ·have t4' :¬(((n:Nat):Int)<1000):=by omega
      rw[if_neg (fun h=>t4 h.2.2.2)]
      simp only[t3,if_true,t4',decide_false,TL,if_false]
      exact leaf _ rfl
    ·rw[if_neg (fun h=>t3 h.2.2.1)]
     simp only[t3,TL,if_false]
     exact leaf _ rfl
   ·rw[if_neg (fun h=>t2 h.2.1)]
    have s1:sEq t [109,101,115,115,97,103,101]=true:=by rw[hsq];exact decide_eq_true t1
    have s2:sEq u [114,102,99,56,50,50]=false:=by rw[hsq];exact decide_eq_false t2
    simp only[s1,s2,if_true,TL,if_false]
    exact leaf _ rfl
  ·rw[if_neg (fun h=>t1 h.1)]
   have s1:sEq t [109,101,115,115,97,103,101]=false:=by rw[hsq];exact decide_eq_false t1
   simp only[s1,TL,if_false]
   exact leaf _ rfl
theorem IV (b:Bs) (hb:b.length≤100000):∀d,d≤32→xQ b d
 |0,_=>RR b hb
 |d+1,h=>RS b hb d h (IV b hb d (by omega))
end Go.Proofs.YtgpofjbdjiajeaaGreatDoor
end
section
namespace Go.Proofs.YtgpofjbdjiajeaaGreatDoor
open Go.Ev Go
theorem Tx (b:Bs) (hb:b.length≤100000):
  Ret 7 [.lst 5 false (ofBytes b)] [] (.tup [partV (cN b 32 0 b.length false 1).1, .int .i64 0],[]):=by
 refine M7 (ofBytes b) ?_
 have h1:¬(((b.length:Nat):Int)>67108864):=by omega
 simp only[T7,aL,h1,decide_false,TL,if_false]
 have he:Ret 15 [.ref 0 0, .agg [.int .i64 (0:Int), .int .i64 (b.length:Nat)], .int .i64 (0:Int), .bool false] [.cells [.lst 5 false (ofBytes b), .int .i64 (1:Int)]] (partV (cN b 32 0 b.length false 1).1,vE b ((cN b 32 0 b.length false 1).2:Nat)):=
  IV b hb 32 (by omega) 0 b.length 1 false (by omega)
 refine aB he ?_
 simp only[cU]
 exact aD _
mutual
def cntF:Pt→Nat
 | .mk _ _ _ kids _ _=>1+dW kids
def dW:List Pt→Nat
 |[]=>0
 |p::r=>cntF p+dW r
end
mutual
def dpF:Pt→Nat
 | .mk _ _ _ kids _ _=>dpL kids
def dpL:List Pt→Nat
 |[]=>0
 |p::r=>max (dpF p+1) (dpL r)
end
theorem lS (p:Pt):1≤cntF p:=by cases p;rw[cntF];omega
theorem Bj:∀l:List Pt,l.length≤dW l
 |[]=>by simp[dW]
 |p::r=>by have:=Bj r;have:=lS p;rw[dW,Ua];omega
theorem qW (f:Pt→V) (pre:List Pt) (p:Pt) (r:List Pt):((pre++p::r).map f).getD pre.length .bot=f p:=by
 simp[Ul]
mutual
theorem OL:∀p:Pt,cntF p≤1000000→Ret 40 [partV p] [] (.int .i64 (cntF p:Nat),[])
 | .mk k h b kids cuts e,hc=>by
  rw[partV]
  refine M40 (k:Nat) (h.1:Nat) (h.2:Nat) (b.1:Nat) (b.2:Nat) (gV kids) (cuts.map cutV) (e.1:Nat) (e.2:Nat) ?_
  rw[cntF]at hc ⊢
  have:=Me kids [] 1 hc (by simp)
  simp only[T40,fD,Ui]
  simpa using this
theorem Me:∀(r pre:List Pt) (acc:Nat),acc+dW r≤1000000→pre.length≤acc→
  Evt (fun k j=>L40 (aA cfg k) j (acc:Nat) ((pre++r).map partV) ((pre++r).length:Nat) (pre.length:Nat)) (.int .i64 ((acc+dW r:Nat):Int),[])
 |[],pre,acc,h,hp=>by
  refine OF (acc:Nat) ((pre++[]).map partV) ((pre++[]).length:Nat) (pre.length:Nat) ?_
  have h1:¬((pre.length:Int)<((pre++[]).length:Nat)):=by simp
  simp only[Gf,h1,decide_false,TL,if_false,dW]
  exact aD _
 |p::r,pre,acc,h,hp=>by
  rw[dW]at h
  refine OF (acc:Nat) ((pre++p::r).map partV) ((pre++p::r).length:Nat) (pre.length:Nat) ?_
  have h1:((pre.length:Int)<((pre++p::r).length:Nat)):=by simp;omega
  have h2:(0:Int)≤(pre.length:Nat):=by omega
  have hpos:=lS p
  have hw:TK .i64 (((pre.length:Nat):Int)+1)=((pre.length+1:Nat):Int):=by rw[wrap64 (by omega) (by omega)];omega
  have hw2:TK .i64 (((acc:Nat):Int)+((cntF p:Nat):Int))=((acc+cntF p:Nat):Int):=by rw[wrap64 (by omega) (by omega)];omega
  simp only[Gf,h1,decide_true,if_true,aI h2,Ui,cR,TW,qW,cU,hw]
  refine aB (OL p (by omega)) ?_
  have:=Me r (pre++[p]) (acc+cntF p) (by omega) (by simp;omega)
  simp only[Ud,Vt,Ug,Ua,Uh,UD]at this
  simp only[V.getI,hw2,dW,Ug,Ua,←Vf]at this ⊢
  exact this
end
mutual
theorem IW:∀p:Pt,dpF p+1≤cntF p
 | .mk k h b kids cuts e=>by
  have:=IX kids
  rw[dpF,cntF];omega
theorem IX:∀l:List Pt,dpL l≤dW l
 |[]=>by simp[dpL]
 |p::r=>by
  have:=IW p
  have:=IX r
  rw[dpL,dW];omega
end
mutual
theorem OM:∀p:Pt,cntF p≤1000000→Ret 41 [partV p] [] (.int .i64 (dpF p:Nat),[])
 | .mk k h b kids cuts e,hc=>by
  rw[partV]
  refine M41 (k:Nat) (h.1:Nat) (h.2:Nat) (b.1:Nat) (b.2:Nat) (gV kids) (cuts.map cutV) (e.1:Nat) (e.2:Nat) ?_
  rw[cntF]at hc
  rw[dpF]
  have:=Mf kids [] 0 (by simp;omega)
  simp only[T41,fD,Ui]
  simpa using this
theorem Mf:∀(r pre:List Pt) (acc:Nat),pre.length+dW r≤1000000→
  Evt (fun k j=>L41 (aA cfg k) j (acc:Nat) ((pre++r).map partV) ((pre++r).length:Nat) (pre.length:Nat)) (.int .i64 ((max acc (dpL r):Nat):Int),[])
 |[],pre,acc,h=>by
  refine OG (acc:Nat) ((pre++[]).map partV) ((pre++[]).length:Nat) (pre.length:Nat) ?_
  have h1:¬((pre.length:Int)<((pre++[]).length:Nat)):=by simp
  simp only[Gg,h1,decide_false,TL,if_false,dpL,Nat.max_zero]
  exact aD _
 |p::r,pre,acc,h=>by
  rw[dW]at h
  refine OG (acc:Nat) ((pre++p::r).map partV) ((pre++p::r).length:Nat) (pre.length:Nat) ?_
  have h1:((pre.length:Int)<((pre++p::r).length:Nat)):=by simp;omega
  have h2:(0:Int)≤(pre.length:Nat):=by omega
  have hpos:=lS p
  have hdc:=IW p
  have hw:TK .i64 (((pre.length:Nat):Int)+1)=((pre.length+1:Nat):Int):=by rw[wrap64 (by omega) (by omega)];omega
  have hw2:TK .i64 (((dpF p:Nat):Int)+1)=((dpF p+1:Nat):Int):=by rw[wrap64 (by omega) (by omega)];omega
  simp only[Gg,h1,decide_true,if_true,aI h2,Ui,cR,TW,qW,cU,hw]
  refine aB (OM p (by omega)) ?_
  have:=Mf r (pre++[p]) (max acc (dpF p+1)) (by simp;omega)
  simp only[Ud,Vt,Ug,Ua,Uh,UD]at this
  simp only[V.getI,hw2,En,dpL,Ug,Ua,Nat.max_assoc]at this ⊢
  exact this
end
end Go.Proofs.YtgpofjbdjiajeaaGreatDoor
end
section
namespace Go.Proofs.YtgpofjbdjiajeaaGreatDoor
open Go.Ev Go
def Pt.kd:Pt→Nat| .mk k _ _ _ _ _=>k
def Pt.hd:Pt→Nat×Nat| .mk _ h _ _ _ _=>h
def Pt.bd:Pt→Nat×Nat| .mk _ _ b _ _ _=>b
def Pt.ks:Pt→List Pt| .mk _ _ _ l _ _=>l
def Pt.cs:Pt→List (Nat×Nat)| .mk _ _ _ _ c _=>c
def Pt.en:Pt→Nat×Nat| .mk _ _ _ _ _ e=>e
theorem nW (p:Pt):V.agg [.int .i64 (p.kd:Nat), .int .i64 (p.hd.1:Nat), .int .i64 (p.hd.2:Nat), .int .i64 (p.bd.1:Nat), .int .i64 (p.bd.2:Nat), .lst 31 false (p.ks.map partV), .lst 27 false (p.cs.map cutV), .int .i64 (p.en.1:Nat), .int .i64 (p.en.2:Nat)]=partV p:=by
 cases p;rw[partV,fD];rfl
theorem Ic (p:Pt):V.cells (partV p)=[.int .i64 (p.kd:Nat), .int .i64 (p.hd.1:Nat), .int .i64 (p.hd.2:Nat), .int .i64 (p.bd.1:Nat), .int .i64 (p.bd.2:Nat), .lst 31 false (p.ks.map partV), .lst 27 false (p.cs.map cutV), .int .i64 (p.en.1:Nat), .int .i64 (p.en.2:Nat)]:=by
 rw[←nW];rfl
theorem Ie {α:Type} {g g' :Nat→Nat→Option α} {r:α} (hg:∀k n,g k n=g' k n) (h:Evt g' r):Evt g r:=by
 obtain⟨K,h⟩:=h
 exact⟨K,fun k n hk hn=>(hg k n).trans (h k n hk hn)⟩
theorem Eo (b:Bs) (d fr to:Nat) (dg:Bool) (n:Nat) {at_:Nat} {l:List Fd} {t u:Bs} {ps:Ps} {bd:Bs} {cs:List (Nat×Nat)} {e:Nat×Nat}
  (h1:(dQ b (fr:Nat) (to:Nat)).1=l) (h2:(dQ b (fr:Nat) (to:Nat)).2.toNat=at_) (h3:mP b l dg=(t,u,ps)) (h4:(getF ps bdB).getD []=bd) (h5:dV b at_ to bd=(cs,e)):
  cN b (d+1) fr to dg n=if t=mpB∧bd≠[]∧bd.length≤70 then
   if 0<cs.length∧n+cs.length≤1000 then
    (Pt.mk 1 (fr,at_) (at_,to) (eV (fun fr to n=>cN b d fr to (u==dgB) n) e.1 cs (n+cs.length)).1 cs e,(eV (fun fr to n=>cN b d fr to (u==dgB) n) e.1 cs (n+cs.length)).2)
   else(eM fr at_ to,n)
  else if t=NH∧u=NI∧C3 b l=true∧n<1000 then(Pt.mk 2 (fr,at_) (at_,to) [(cN b d at_ to false (n+1)).1] [] (0,0),(cN b d at_ to false (n+1)).2)
  else(eM fr at_ to,n):=by
 rw[cN]
 simp only[h1,h2,h3,h4,h5]
theorem Dc (ent:Nat→Nat→Nat→Pt×Nat) (h:∀fr to n,(ent fr to n).2+1=n+cntF (ent fr to n).1) (fin:Nat):∀(cs:List (Nat×Nat)) (n:Nat),(eV ent fin cs n).2+cs.length=n+dW (eV ent fin cs n).1
 |[],n=>by simp[eV,dW]
 |c::r,n=>by
  have h1:=h c.2 (max (mQ fin r) c.2) n
  have h2:=Dc ent h fin r (ent c.2 (max (mQ fin r) c.2) n).2
  rw[eV,dW,Ua]
  simp only
  omega
theorem vH (b:Bs):∀(d fr to:Nat) (dg:Bool) (n:Nat),(cN b d fr to dg n).2+1=n+cntF (cN b d fr to dg n).1
 |0,fr,to,dg,n=>by rw[cN];simp only[eM,cntF,dW]
 |d+1,fr,to,dg,n=>by
  generalize h1:(dQ b (fr:Nat) (to:Nat)).1=l
  generalize h2:(dQ b (fr:Nat) (to:Nat)).2.toNat=at_
  obtain⟨t,u,ps,h3⟩:∃t u ps,mP b l dg=(t,u,ps):=⟨_,_,_,rfl⟩
  generalize h4:(getF ps bdB).getD []=bd
  obtain⟨cs,e,h5⟩:∃cs e,dV b at_ to bd=(cs,e):=⟨_,_,rfl⟩
  rw[Eo b d fr to dg n h1 h2 h3 h4 h5]
  split
  ·split
   ·have:=Dc (fun fr to n=>cN b d fr to (u==dgB) n) (fun fr to n=>vH b d fr to _ n) e.1 cs (n+cs.length)
    rw[cntF]
    simp only
    omega
   ·simp only[eM,cntF,dW]
  ·split
   ·have:=vH b d at_ to false (n+1)
    simp only[cntF,dW]
    omega
   ·simp only[eM,cntF,dW]
theorem lT (x y:Bs):ofBytes x++ofBytes y=ofBytes (x++y):=by simp[ofBytes]
end Go.Proofs.YtgpofjbdjiajeaaGreatDoor
end
section
namespace Go.Proofs.YtgpofjbdjiajeaaGreatDoor
open Go.Ev Go
theorem wrap32 {n:Int} (h1:0≤n) (h2:n<4294967296):TK .u32 n=n:=by
 have:TK .u32 n=n % 4294967296:=by simp[TK,Wv,Uz]
 rw[this];omega
theorem ON (x:W32):TK .u32 ((x.toNat:Nat):Int)=((x.toNat:Nat):Int):=wrap32 (by omega) (by have:=x.isLt;omega)
theorem Ep (x:W32):BitVec.ofInt 32 ((x.toNat:Nat):Int)=x:=by
 rw[BitVec.ofInt_natCast];simp
theorem Gq (x y:W32):bits .xor .u32 ((x.toNat:Nat):Int) ((y.toNat:Nat):Int)=(((x ^^^ y).toNat:Nat):Int):=by
 show TK .u32 (((BitVec.ofInt 32 _ ^^^ BitVec.ofInt 32 _).toNat:Nat):Int)=_
 rw[Ep,Ep,ON]
theorem RU (x y:W32):bits .and .u32 ((x.toNat:Nat):Int) ((y.toNat:Nat):Int)=(((x &&& y).toNat:Nat):Int):=by
 show TK .u32 (((BitVec.ofInt 32 _ &&& BitVec.ofInt 32 _).toNat:Nat):Int)=_
 rw[Ep,Ep,ON]
theorem RV (x:W32) (k:Nat):V3 ((x.toNat:Nat):Int) ((2 ^ k:Nat):Int)=(((x >>> k).toNat:Nat):Int):=by
 rw[Int.fdiv_eq_ediv_of_nonneg _ (Int.natCast_nonneg _),BitVec.toNat_ushiftRight,VV];rfl
theorem PX (y:W32) (h:y.toNat<16):V.getI (Ul tV (0+TO ((y.toNat:Nat):Int)*1) .bot)=(((zN 4 y).toNat:Nat):Int):=by
 have key:∀j:Fin 16,V.getI (Ul tV (0+j.val*1) .bot)=(((zN 4 (BitVec.ofNat 32 j.val)).toNat:Nat):Int):=by decide+kernel
 have:=key ⟨y.toNat,h⟩
 simp only[TW]at this ⊢
 rw[this]
 simp
theorem RX (y:W32):(y &&& 15#32).toNat=y.toNat % 16:=by
 rw[BitVec.toNat_and,BitVec.toNat_ofNat,show 15 % 2 ^ 32=2 ^ 4 - 1 from rfl,Nat.and_two_pow_sub_one_eq_mod]
theorem RY:Wy .u32=(((~~~ 0#32:W32).toNat:Nat):Int):=rfl
theorem RZ (x:W32):(~~~ 0#32:W32) ^^^ x= ~~~ x:=by
 apply BitVec.eq_of_getLsbD_eq
 intro i hi
 rw[BitVec.getLsbD_xor,BitVec.getLsbD_not,BitVec.getLsbD_not,BitVec.getLsbD_zero,decide_eq_true hi]
 simp
theorem R1 (x:W32) {f:Nat} (hf:f<16):(x >>> 4) ^^^ zN 4 ((x ^^^ BitVec.ofNat 32 f) &&& 15#32)=fd 4 x f:=by
 rw[RI x (by omega) (by omega),NK (x ^^^ BitVec.ofNat 32 f)]
 congr 1
 apply BitVec.eq_of_toNat_eq
 rw[BitVec.toNat_ushiftRight,BitVec.toNat_ushiftRight,BitVec.toNat_xor,BitVec.toNat_ofNat,Vz (show f<2 ^ 32 by omega),Nat.shiftRight_xor_distrib,VV f,Nat.div_eq_of_lt (by omega),Nat.xor_zero]
theorem PY:tbl (tOf (.agg tV,[]))=tV:=rfl
theorem IY {G:Nat→Nat→Int→Option (V×List Ob)} {r:V×List Ob} (x:W32) (f:Nat) (hf:f<16) (h:Evt (fun k n=>G k n ((fd 4 x f).toNat:Nat)) r):
  Evt (fun k n=>moS (G k n) (tOf (.agg tV,[])) ((x.toNat:Nat):Int) ((f:Nat):Int)) r:=by
 have e1:(((f:Nat):Int))=(((BitVec.ofNat 32 f).toNat:Nat):Int):=by rw[BitVec.toNat_ofNat,Vz (by omega)]
 have e2:Ke ((x.toNat:Nat):Int) ((f:Nat):Int)=((((x ^^^ BitVec.ofNat 32 f) &&& 15#32).toNat:Nat):Int):=by
  unfold Ke
  rw[e1,Gq,show(15:Int)=(((15#32:W32).toNat:Nat):Int)from rfl,RU]
 have h16:((x ^^^ BitVec.ofNat 32 f) &&& 15#32).toNat<16:=by rw[RX];omega
 have hp:(2:Int) ^ min (TO (4:Int)) (Uz Uk)=((2 ^ 4:Nat):Int):=rfl
 refine Ie (g' :=fun k n=>G k n ((fd 4 x f).toNat:Nat)) (fun k n=>?_) h
 unfold moS
 rw[PY,e2,aI (by decide),aI (by omega),aI (by rw[TW];simp only[tV,Ua,Uh];omega),PX _ h16,hp,RV,Gq,R1 x hf]
theorem Mg (b:Bs) (hb:b.length≤1000000000):∀(m i:Nat) (x:W32),b.length - i=m→i≤b.length→
  Evt (fun _ n=>(moL n).1 (tOf (.agg tV,[])) (ofBytes b) ((b.length:Nat):Int) (i:Nat) ((x.toNat:Nat):Int)) (.int .u32 (((~~~ (El x (b.drop i))).toNat:Nat):Int),[])
 |0,i,x,h,hi=>by
  refine aX (g' :=fun _ n=>moT (fun f0 f1=>(moL n).2.1 f0 f1 (tOf (.agg tV,[])) (ofBytes b) ((b.length:Nat):Int) (i:Nat) ((x.toNat:Nat):Int)) (ofBytes b) ((b.length:Nat):Int) (i:Nat) ((x.toNat:Nat):Int)) (fun k n=>rfl) ?_
  have h1:¬(((i:Nat):Int)<((b.length:Nat):Int)):=by omega
  simp only[moT,h1,decide_false,TL,if_false]
  rw[RY,Gq,RZ,List.drop_of_length_le (by omega),Gk]
  exact aD _
 |m+1,i,x,h,hi=>by
  have hlt:i<b.length:=by omega
  have next:=Mg b hb m (i+1) (fd 4 (fd 4 x (b[i].toNat % 16)) (b[i].toNat / 16)) (by omega) (by omega)
  have hc:=b[i].toNat_lt
  have e8:El x (b.drop i)=El (fd 4 (fd 4 x (b[i].toNat % 16)) (b[i].toNat / 16)) (b.drop (i+1)):=by
   rw[drop_at hlt,Da,show(8:Nat)=4+4 from rfl,Ib]
   rw[show b[i].toNat / 2 ^ 4=b[i].toNat / 16 from rfl,←Ek 4 x b[i].toNat]
  rw[←e8]at next
  refine aX (g' :=fun _ n=>moT (fun f0 f1=>(moL n).2.1 f0 f1 (tOf (.agg tV,[])) (ofBytes b) ((b.length:Nat):Int) (i:Nat) ((x.toNat:Nat):Int)) (ofBytes b) ((b.length:Nat):Int) (i:Nat) ((x.toNat:Nat):Int)) (fun k n=>rfl) ?_
  have h1:(((i:Nat):Int)<((b.length:Nat):Int)):=by omega
  have h2:(0:Int)≤(i:Nat):=by omega
  have hw:TK .i64 (((i:Nat):Int)+1)=((i+1:Nat):Int):=by rw[wrap64 (by omega) (by omega)];omega
  have hg:V.getI (Ul (ofBytes b) (TO ((i:Nat):Int)) .bot)=((b[i].toNat:Nat):Int):=by
   rw[TW]
   simp[ofBytes,Ul,hlt,V.getI]
  have hlo:TK .u32 (bits .and .u8 ((b[i].toNat:Nat):Int) 15)=((b[i].toNat % 16:Nat):Int):=by
   have key:∀c:UInt8,TK .u32 (bits .and .u8 ((c.toNat:Nat):Int) 15)=((c.toNat % 16:Nat):Int):=nU (by decide+kernel)
   exact key _
  have hhi:TK .u32 (V3 ((b[i].toNat:Nat):Int) (2 ^ min (TO (4:Int)) (Uz UT)))=((b[i].toNat / 16:Nat):Int):=by
   have key:∀c:UInt8,TK .u32 (V3 ((c.toNat:Nat):Int) (2 ^ min (TO (4:Int)) (Uz UT)))=((c.toNat / 16:Nat):Int):=nU (by decide+kernel)
   exact key _
  simp only[moT,h1,decide_true,if_true,aI h2,aL,cR,hg,hlo,hhi,aI (show(0:Int)≤4 by decide)]
  refine aX (g' :=fun _ n=>moS (fun x' =>(moL n).2.2.1 ((b[i].toNat % 16:Nat):Int) ((b[i].toNat / 16:Nat):Int) (tOf (.agg tV,[])) (ofBytes b) ((b.length:Nat):Int) (i:Nat) x') (tOf (.agg tV,[])) ((x.toNat:Nat):Int) ((b[i].toNat % 16:Nat):Int)) (fun k n=>rfl) ?_
  refine IY x (b[i].toNat % 16) (by omega) ?_
  refine aX (g' :=fun _ n=>moS (fun x' =>(moL n).2.2.2 ((b[i].toNat % 16:Nat):Int) ((b[i].toNat / 16:Nat):Int) (tOf (.agg tV,[])) (ofBytes b) ((b.length:Nat):Int) (i:Nat) x') (tOf (.agg tV,[])) (((fd 4 x (b[i].toNat % 16)).toNat:Nat):Int) ((b[i].toNat / 16:Nat):Int)) (fun k n=>rfl) ?_
  refine IY _ (b[i].toNat / 16) (by omega) ?_
  refine aX (g' :=fun _ n=>(moL n).1 (tOf (.agg tV,[])) (ofBytes b) ((b.length:Nat):Int) (TK TM (((i:Nat):Int)+(1:Int))) (((fd 4 (fd 4 x (b[i].toNat % 16)) (b[i].toNat / 16)).toNat:Nat):Int)) (fun k n=>rfl) ?_
  rw[hw]
  exact next
def Bl (b:Bs):V:= .int .u32 (((eB b).toNat:Nat):Int)
theorem IZ (b:Bs) (hb:b.length≤1000000000):Ret 19 [.lst 5 false (ofBytes b)] [] (Bl b,[]):=by
 have hm:Ret 45 [.int .u32 0, .lst 5 false (ofBytes b)] [] (Bl b,[]):=by
  refine M45 0 (ofBytes b) ?_
  refine aB RP ?_
  have e:bits .xor .u32 (Wy .u32) 0=(((~~~ 0#32:W32).toNat:Nat):Int):=by decide+kernel
  rw[e,aL]
  have:=Mg b hb b.length 0 (~~~ 0#32) (by omega) (by omega)
  rw[U7]at this
  exact this
 refine M19 (ofBytes b) ?_
 simp only[T19]
 refine aB hm ?_
 exact aD _
end Go.Proofs.YtgpofjbdjiajeaaGreatDoor
end
section
namespace Go.Proofs.YtgpofjbdjiajeaaGreatDoor
open Go.Ev Go
theorem R2 (x:W32):Vn ((x.toNat:Nat):Int) 2=((x.toNat % 2:Nat):Int):=by
 rw[VQ (by omega)];rfl
theorem R7 (x:W32):TK .u32 (Wn ((x.toNat:Nat):Int) 2)=(((x >>> 1).toNat:Nat):Int):=by
 have hx:=x.isLt
 rw[V7 (by omega),BitVec.toNat_ushiftRight,VV]
 rw[wrap32 (by omega) (by omega)];rfl
theorem NL (y:W32):y.getLsbD 0=decide (y.toNat % 2=1):=by
 show y.toNat.testBit 0=_
 simp[Nat.testBit_zero]
theorem R9 (x:W32) (c:Nat) (hc:c<256):bits .xor .u32 ((x.toNat:Nat):Int) (TK .u32 (Vn ((c:Nat):Int) 2))=(((x ^^^ BitVec.ofNat 32 (c % 2)).toNat:Nat):Int):=by
 have e:TK .u32 (Vn ((c:Nat):Int) 2)=(((BitVec.ofNat 32 (c % 2)).toNat:Nat):Int):=by
  rw[VQ (by omega),BitVec.toNat_ofNat,Vz (by omega),wrap32 (by omega) (by omega)];rfl
 rw[e,Gq]
theorem Sa (c:Nat) (hc:c<256):TK .u8 (Wn ((c:Nat):Int) 2)=((c / 2:Nat):Int):=by
 rw[V7 (by omega),AO (by omega) (by omega)];rfl
theorem PZ (y:W32):(if((Vn ((y.toNat:Nat):Int) 2)==(1:Int))=true then bits .xor .u32 (TK .u32 (Wn ((y.toNat:Nat):Int) 2)) (3988292384:Int)else TK .u32 (Wn ((y.toNat:Nat):Int) 2))=(((zS y).toNat:Nat):Int):=by
 rw[R7,R2]
 unfold zS
 rw[NL]
 by_cases h:y.toNat % 2=1
 ·rw[if_pos (by rw[h];rfl),if_pos (by simpa using h),show(3988292384:Int)=((zP.toNat:Nat):Int)from rfl,Gq]
 ·have h0:y.toNat % 2=0:=by omega
  rw[if_neg (by rw[h0];decide),if_neg (by simpa using h),BitVec.xor_zero]
theorem I0 (s:Bs) (i:Nat) {res:V×List Ob}:∀(m j:Nat) (x:W32) (c:Nat),j+m=8→c<256→
  Evt (fun k n=>(L49 (aA cfg k) n).1 s (((fd m x c).toNat:Nat):Int) (TK .i64 (((i:Nat):Int)+(1:Int)))) res→
  Evt (fun k n=>(L49 (aA cfg k) n).2 s ((x.toNat:Nat):Int) (i:Nat) (c:Nat) (j:Nat)) res
 |0,j,x,c,h,hc,hr=>by
  refine OK s ((x.toNat:Nat):Int) (i:Nat) (c:Nat) (j:Nat) ?_
  have h1:¬(((j:Nat):Int)<8):=by omega
  simp only[Gn,h1,decide_false,TL,if_false]
  exact hr
 |m+1,j,x,c,h,hc,hr=>by
  have next:=I0 s i m (j+1) (zS (x ^^^ BitVec.ofNat 32 (c % 2))) (c / 2) (by omega) (by omega) hr
  refine OK s ((x.toNat:Nat):Int) (i:Nat) (c:Nat) (j:Nat) ?_
  have h1:(((j:Nat):Int)<8):=by omega
  have hw:TK .i64 (((j:Nat):Int)+1)=((j+1:Nat):Int):=by rw[wrap64 (by omega) (by omega)];omega
  have h2:((2:Int) != 0)=true:=rfl
  have hs:=PZ (x ^^^ BitVec.ofNat 32 (c % 2))
  simp only[Gn,h1,decide_true,if_true,h2,cR,R9 x c hc,Sa c hc,hw]
  by_cases hq:((Vn (((x ^^^ BitVec.ofNat 32 (c % 2)).toNat:Nat):Int) 2)==(1:Int))=true
  ·rw[if_pos hq]at hs
   simp only[hq,if_true,hs]
   exact next
  ·rw[if_neg hq]at hs
   simp only[hq,TL,if_false,hs]
   exact next
theorem Mh (s:Bs) (hs:s.length≤1000000000):∀(m i:Nat) (x:W32),s.length - i=m→i≤s.length→
  Evt (fun k n=>(L49 (aA cfg k) n).1 s ((x.toNat:Nat):Int) (i:Nat)) (.int .u32 (((~~~ (El x (s.drop i))).toNat:Nat):Int),[])
 |0,i,x,h,hi=>by
  refine OJ s ((x.toNat:Nat):Int) (i:Nat) ?_
  have h1:¬(((i:Nat):Int)<((s.length:Nat):Int)):=by omega
  have e:TK .u32 ((4294967295:Int) - ((x.toNat:Nat):Int))=(((~~~ x).toNat:Nat):Int):=by
   have hx:=x.isLt
   rw[wrap32 (by omega) (by omega),BitVec.toNat_not];omega
  simp only[Gm,h1,decide_false,TL,if_false,e]
  rw[List.drop_of_length_le (by omega),Gk]
  exact aD _
 |m+1,i,x,h,hi=>by
  have hlt:i<s.length:=by omega
  have next:=Mh s hs m (i+1) (fd 8 x s[i].toNat) (by omega) (by omega)
  rw[←Da,←drop_at hlt]at next
  refine OJ s ((x.toNat:Nat):Int) (i:Nat) ?_
  have h1:(((i:Nat):Int)<((s.length:Nat):Int)):=by omega
  have h2:(0:Int)≤(i:Nat):=by omega
  have hw:TK .i64 (((i:Nat):Int)+1)=((i+1:Nat):Int):=by rw[wrap64 (by omega) (by omega)];omega
  simp only[Gm,h1,decide_true,if_true,aI h2,cR,TW,getD_at hlt]
  refine I0 s i 8 0 x s[i].toNat rfl s[i].toNat_lt ?_
  rw[hw]
  exact next
theorem Sb (s:Bs) (hs:s.length≤1000000000):Ret 30 [.str s] [] (Bl s,[]):=by
 have hm:Ret 49 [.int .u32 0, .str s] [] (Bl s,[]):=by
  refine M49 0 s ?_
  have e:TK .u32 ((4294967295:Int) - 0)=(((~~~ 0#32:W32).toNat:Nat):Int):=by decide+kernel
  simp only[T49,e]
  have:=Mh s hs s.length 0 (~~~ 0#32) (by omega) (by omega)
  rw[U7]at this
  exact this
 refine M30 s ?_
 simp only[T30]
 refine aB hm ?_
 exact aD _
def leB:Nat→Nat→Bs
 |0,_=>[]
 |n+1,x=>Uo x::leB n (x / 256)
theorem Sf (x:Nat):leB 4 x=le4 x:=by
 simp only[leB,le4,Nat.div_div_eq_div_mul]
theorem Mi:∀(m:Nat) (x:Nat) (n i:Nat) (s:Bs),x<18446744073709551616→n=i+m→n≤1000→s.length+m≤1000→
  Evt (fun k j=>L29 (aA cfg k) j (x:Nat) (n:Nat) s (i:Nat)) (.str (s++leB m x),[])
 |0,x,n,i,s,hx,hn,hn2,hs=>by
  refine OI (x:Nat) (n:Nat) s (i:Nat) ?_
  have h1:¬(((i:Nat):Int)<((n:Nat):Int)):=by omega
  simp only[Gl,h1,decide_false,TL,if_false,leB,UI]
  exact aD _
 |m+1,x,n,i,s,hx,hn,hn2,hs=>by
  refine OI (x:Nat) (n:Nat) s (i:Nat) ?_
  have h1:(((i:Nat):Int)<((n:Nat):Int)):=by omega
  have hw:TK .i64 (((i:Nat):Int)+1)=((i+1:Nat):Int):=by rw[wrap64 (by omega) (by omega)];omega
  have h2:((256:Int) != 0)=true:=rfl
  have e1:bytesOf [V.int .u8 (TK .u8 (Vn ((x:Nat):Int) 256))]=[Uo x]:=by
   rw[VQ (by omega),AO (by omega) (by omega)]
   simp only[bytesOf,UE,VL,V.getI]
   congr 1
   apply Wc.1
   rw[Vm,Vm]
   omega
  have e2:TK .u64 (Wn ((x:Nat):Int) 256)=((x / 256:Nat):Int):=by
   have:∀z:Int,TK .u64 z=z % 18446744073709551616:=fun z=>by simp[TK,Wv,Uz]
   rw[V7 (by omega),this];omega
  simp only[Gl,h1,decide_true,if_true,h2,cR,e1,e2,hw]
  have next:=Mi m (x / 256) n (i+1) (s++[Uo x]) (by omega) (by omega) hn2 (by simp;omega)
  rw[Ud]at next
  simp only[cZ (oY (x:=s) (y:=[Uo x]) (by simp;omega))]
  exact next
def fJ (s:Bs):Bs:=s++le4 (eB s).toNat
theorem Sg (s:Bs) (hs:s.length≤1000000000):Ret 13 [.str s] [] (.str (fJ s),[]):=by
 have hx:=(eB s).isLt
 have hn:Ret 29 [.int .u64 ((eB s).toNat:Nat), .int .i64 (4:Int)] [] (.str (le4 (eB s).toNat),[]):=by
  refine M29 ((eB s).toNat:Nat) 4 ?_
  simp only[T29]
  have:=Mi 4 (eB s).toNat 4 0 [] (by omega) rfl (by omega) (by simp)
  rw[Sf]at this
  exact this
 refine M13 s ?_
 simp only[T13]
 refine aB (Sb s hs) ?_
 have e:TK .u64 (V.getI (Bl s))=(((eB s).toNat:Nat):Int):=by
  have:∀z:Int,TK .u64 z=z % 18446744073709551616:=fun z=>by simp[TK,Wv,Uz]
  rw[this]
  show((((eB s).toNat:Nat):Int)) % 18446744073709551616=_
  omega
 simp only[e]
 refine aB hn ?_
 have hl:(le4 (eB s).toNat).length=4:=rfl
 simp only[vG,cZ (oY (x:=s) (y:=le4 (eB s).toNat) (by omega))]
 exact aD _
end Go.Proofs.YtgpofjbdjiajeaaGreatDoor
end
section
namespace Go.Proofs.YtgpofjbdjiajeaaGreatDoor
open Go.Ev Go
mutual
def fV (m:Nat):Pt→Prop
 | .mk _ h b kids cuts e=>h.1≤m∧h.2≤m∧b.1≤m∧b.2≤m∧(∀c∈cuts,c.1≤m∧c.2≤m)∧cuts.length≤m∧e.1≤m∧e.2≤m∧dX m kids
def dX (m:Nat):List Pt→Prop
 |[]=>True
 |p::r=>fV m p∧dX m r
end
end Go.Proofs.YtgpofjbdjiajeaaGreatDoor
end
section
namespace Go.Proofs.YtgpofjbdjiajeaaGreatDoor
open Go.Ev Go
theorem Dd (b:Bs) (fr to:Nat):(dQ b (fr:Nat) (to:Nat)).2.toNat≤max fr b.length:=by
 have hb:∀x∈aW (fr:Nat) (to:Nat) b,x.2.2≤b.length:=fun x hx=>(lQ x hx).2.2
 generalize hl:aW (fr:Nat) (to:Nat) b=l at hb
 have hd:∀k,(l.getD k (0,0,0)).2.2≤b.length:=fun k=>by
  by_cases hk:k<l.length
  ·have:l.getD k (0,0,0)=l[k]:=by simp[Ul,hk]
   rw[this];exact hb _ (U3 hk)
  ·have:l.getD k (0,0,0)=(0,0,0):=by simp[Ul,UZ hk]
   rw[this];simp
 unfold dQ
 rw[hl]
 split
 ·simp;omega
 ·split
  ·rename_i k hk
   have:=hd k;simp only[TW];omega
  ·have:=hd (l.length - 1);simp only[TW];omega
theorem Bm {m:Nat} (b bd:Bs):∀(l:List Ln) (out:List (Nat×Nat)) (fr:Nat),(∀x∈l,x.2.1≤m∧x.2.2≤m)→fr≤m→(∀c∈out,c.1≤m∧c.2≤m)→
  (∀c∈(fH b bd l out fr).1,c.1≤m∧c.2≤m)∧∀c,(fH b bd l out fr).2=some c→c.1≤m∧c.2≤m
 |[],out,fr,_,_,ho=>⟨ho,by simp[fH]⟩
 |x::r,out,fr,hl,hf,ho=>by
  obtain⟨h1,h2⟩:=hl x (by simp)
  have hr:∀y∈r,y.2.1≤m∧y.2.2≤m:=fun y hy=>hl y (by simp[hy])
  rw[fH]
  split
  ·exact Bm b bd r out _ hr h1 ho
  ·split
   ·exact⟨ho,fun c hc=>by cases hc;exact⟨hf,h2⟩⟩
   ·refine Bm b bd r _ _ hr h2 fun c hc=>?_
    rw[TV]at hc
    rcases hc with hc|hc
    ·exact ho c hc
    ·simp at hc;subst hc;exact⟨hf,h2⟩
theorem Mj {m:Nat} (b:Bs) (fr to:Nat) (bd:Bs) (hb:b.length≤m) (hf:fr≤m) (ht:to≤m):(∀c∈(dV b fr to bd).1,c.1≤m∧c.2≤m)∧(dV b fr to bd).2.1≤m∧(dV b fr to bd).2.2≤m:=by
 obtain⟨h1,h2⟩:=Bm (m:=m) b bd (aW (fr:Nat) (to:Nat) b) [] fr (fun x hx=>by have:=lQ x hx;omega) hf (by simp)
 unfold dV
 refine⟨h1,?_⟩
 simp only
 cases h3:(fH b bd (aW (fr:Nat) (to:Nat) b) [] fr).2 with
 |none=>exact⟨ht,ht⟩
 |some c=>exact h2 c h3
end Go.Proofs.YtgpofjbdjiajeaaGreatDoor
end
section
namespace Go.Proofs.YtgpofjbdjiajeaaGreatDoor
open Go.Ev Go
theorem De (m:Nat) (ent:Nat→Nat→Nat→Pt×Nat) (h:∀fr to n,fr≤m→to≤m→fV m (ent fr to n).1) (fin:Nat) (hf:fin≤m):∀(cs:List (Nat×Nat)) (n:Nat),(∀c∈cs,c.1≤m∧c.2≤m)→
  dX m (eV ent fin cs n).1
 |[],n,_=>by rw[eV,dX];trivial
 |c::r,n,hc=>by
  obtain⟨h1,h2⟩:=hc c (by simp)
  have hr:∀x∈r,x.1≤m∧x.2≤m:=fun x hx=>hc x (by simp[hx])
  have hx:max (mQ fin r) c.2≤m:=by
   cases r with
   |nil=>simp only[mQ];omega
   |cons x r=>have:=hr x (by simp);simp only[mQ];omega
  rw[eV,dX]
  exact⟨h _ _ _ h2 hx,De m ent h fin hf r _ hr⟩
theorem Bn {m fr at_ to:Nat} (h1:fr≤m) (h2:at_≤m) (h3:to≤m):fV m (eM fr at_ to):=by
 rw[eM,fV,dX]
 exact⟨h1,h2,h2,h3,by simp,by simp,by simp,by simp,trivial⟩
theorem Bo (m:Nat) (b:Bs) (hb:b.length≤m):∀(d fr to:Nat) (dg:Bool) (n:Nat),fr≤m→to≤m→fV m (cN b d fr to dg n).1
 |0,fr,to,dg,n,hf,ht=>by
  have:=Dd b fr to
  rw[cN]
  exact Bn hf (by omega) ht
 |d+1,fr,to,dg,n,hf,ht=>by
  generalize h1:(dQ b (fr:Nat) (to:Nat)).1=l
  generalize h2:(dQ b (fr:Nat) (to:Nat)).2.toNat=at_
  have hat:at_≤m:=by rw[←h2];have:=Dd b fr to;omega
  obtain⟨t,u,ps,h3⟩:∃t u ps,mP b l dg=(t,u,ps):=⟨_,_,_,rfl⟩
  generalize h4:(getF ps bdB).getD []=bd
  obtain⟨cs,e,h5⟩:∃cs e,dV b at_ to bd=(cs,e):=⟨_,_,rfl⟩
  obtain⟨q1,q2,q3⟩:=Mj (m:=m) b at_ to bd hb hat ht
  have q4:=vF b at_ to bd
  rw[h5]at q1 q2 q3 q4
  rw[Eo b d fr to dg n h1 h2 h3 h4 h5]
  split
  ·split
   ·rw[fV]
    exact⟨hf,hat,hat,ht,q1,Uy q4 hb,q2,q3,De m _ (fun fr to n hf ht=>Bo m b hb d fr to _ n hf ht) _ q2 _ _ q1⟩
   ·exact Bn hf hat ht
  ·split
   ·rw[fV,dX,dX]
    exact⟨hf,hat,hat,ht,by simp,by simp,by simp,by simp,Bo m b hb d at_ to _ _ hat ht,trivial⟩
   ·exact Bn hf hat ht
end Go.Proofs.YtgpofjbdjiajeaaGreatDoor
end
section
namespace Go.Proofs.YtgpofjbdjiajeaaGreatDoor
open Go.Ev Go
end Go.Proofs.YtgpofjbdjiajeaaGreatDoor
end
section
namespace Go.Proofs.YtgpofjbdjiajeaaGreatDoor
open Go.Ev Go
end Go.Proofs.YtgpofjbdjiajeaaGreatDoor
end
section
namespace Go.Proofs.YtgpofjbdjiajeaaGreatDoor
open Go.Ev Go
theorem If {fr to:Nat} {b:Bs}:∀x∈aW (fr:Nat) (to:Nat) b,fr≤x.2.2∧x.2.2≤to:=by
 intro x hx
 unfold aW at hx
 split at hx
 ·rename_i h
  have:=nC _ _ _ x hx
  simp at this
  omega
 ·cases hx
theorem Bp {fr to:Nat} (b:Bs) (h:fr≤to):fr≤(dQ b (fr:Nat) (to:Nat)).2.toNat∧(dQ b (fr:Nat) (to:Nat)).2.toNat≤to:=by
 have hb:∀x∈aW (fr:Nat) (to:Nat) b,fr≤x.2.2∧x.2.2≤to:=If
 generalize hl:aW (fr:Nat) (to:Nat) b=l at hb
 have hd:∀k,k<l.length→fr≤(l.getD k (0,0,0)).2.2∧(l.getD k (0,0,0)).2.2≤to:=fun k hk=>by
  have:l.getD k (0,0,0)=l[k]:=by simp[Ul,hk]
  rw[this];exact hb _ (U3 hk)
 unfold dQ
 rw[hl]
 by_cases h0:l=[]
 ·rw[if_pos h0];simp;omega
 ·have hpos:0<l.length:=U6.2 h0
  rw[if_neg h0]
  cases he:iS l with
  |some k=>
   have:=hd k (xN he)
   simp only[TW];exact this
  |none=>
   have:=hd (l.length - 1) (by omega)
   simp only[TW];exact this
theorem I1 (b:Bs) (d fr to:Nat) (dg:Bool) (n:Nat):(cN b d fr to dg n).1.hd=(fr,(dQ b (fr:Nat) (to:Nat)).2.toNat)∧(cN b d fr to dg n).1.bd=((dQ b (fr:Nat) (to:Nat)).2.toNat,to):=by
 cases d with
 |zero=>rw[cN];exact⟨rfl,rfl⟩
 |succ d=>
  obtain⟨t,u,ps,h3⟩:∃t u ps,mP b (dQ b (fr:Nat) (to:Nat)).1 dg=(t,u,ps):=⟨_,_,_,rfl⟩
  obtain⟨cs,e,h5⟩:∃cs e,dV b (dQ b (fr:Nat) (to:Nat)).2.toNat to ((getF ps bdB).getD [])=(cs,e):=⟨_,_,rfl⟩
  rw[Eo b d fr to dg n rfl rfl h3 rfl h5]
  split
  ·split<;>exact⟨rfl,rfl⟩
  ·split<;>exact⟨rfl,rfl⟩
end Go.Proofs.YtgpofjbdjiajeaaGreatDoor
end
section
namespace Go.Proofs.YtgpofjbdjiajeaaGreatDoor
open Go.Ev Go
def CCh:Nat→List (Nat×Nat)→Nat→Prop
 |a,[],z=>a≤z
 |a,c::r,z=>a≤c.1∧c.1≤c.2∧CCh c.2 r z
theorem CCh.le {z:Nat}:∀{l:List (Nat×Nat)} {a:Nat},CCh a l z→a≤z
 |[],_,h=>h
 |c::r,_,h=>Uy h.1 (Uy h.2.1 (CCh.le h.2.2))
theorem CCh.mono {z z' :Nat} (hz:z≤z'):∀{l:List (Nat×Nat)} {a:Nat},CCh a l z→CCh a l z'
 |[],_,h=>Uy h hz
 |c::r,_,h=>⟨h.1,h.2.1,CCh.mono hz h.2.2⟩
theorem CCh.snoc {z z' u:Nat} (h1:z≤z') (h2:z'≤u):∀{l:List (Nat×Nat)} {a:Nat},CCh a l z→CCh a (l++[(z',u)]) u
 |[],a,h=>⟨Uy h h1,h2,TY _⟩
 |c::r,_,h=>⟨h.1,h.2.1,CCh.snoc h1 h2 h.2.2⟩
def LCh:Nat→List Ln→Nat→Prop
 |a,[],z=>a≤z
 |a,x::r,z=>x.1=a∧a≤x.2.1∧x.2.1≤x.2.2∧LCh x.2.2 r z
theorem Df:∀(n a:Nat) (s:Bs),LCh a (fA n a s) (a+s.length)
 |0,a,s=>by simp[fA,LCh]
 |n+1,a,s=>by
  unfold fA
  split
  ·simp[LCh]
  ·rename_i hs
   have hp:0<s.length:=U6.2 hs
   split
   ·exact⟨rfl,by simp,by simp,by simp[LCh]⟩
   ·rename_i hk
    obtain⟨q,hq⟩:∃q:Nat,Lib.indexByte s 10=q:=⟨(Lib.indexByte s 10).toNat,by omega⟩
    have hq0:=Lib.indexByte_some hq
    have hql:q<s.length:=(TQ.1 hq0.1).1
    rw[hq]
    simp only[TW]
    refine⟨rfl,by simp only;split<;>omega,by simp only;split<;>omega,?_⟩
    have:=Df n (a+q+1) (s.drop (q+1))
    rw[Uv,show a+q+1+(s.length - (q+1))=a+s.length by omega]at this
    exact this
theorem Ig {fr to:Nat} {b:Bs} (h:fr≤to):LCh fr (aW (fr:Nat) (to:Nat) b) to:=by
 unfold aW
 split
 ·rename_i hh
  have:=Df ((b.take to).drop fr).length fr ((b.take to).drop fr)
  rw[show fr+((b.take to).drop fr).length=to by rw[Uv,Vo];omega]at this
  exact this
 ·exact h
theorem Bq (b bd:Bs) (lo to:Nat):∀(l:List Ln) (out:List (Nat×Nat)) (fr a:Nat),LCh a l to→fr≤a→CCh lo out fr→
  CCh lo (fH b bd l out fr).1 ((fH b bd l out fr).2.getD (to,to)).1∧((fH b bd l out fr).2.getD (to,to)).1≤((fH b bd l out fr).2.getD (to,to)).2∧((fH b bd l out fr).2.getD (to,to)).2≤to
 |[],out,fr,a,hl,hf,ho=>by
  rw[fH]
  exact⟨ho.mono (Uy hf hl),TY _,TY _⟩
 |x::r,out,fr,a,hl,hf,ho=>by
  obtain⟨h1,h2,h3,h4⟩:=hl
  have hz:x.2.2≤to:=by
   have:∀(l:List Ln) (a:Nat),LCh a l to→a≤to:=by
    intro l
    induction l with
    |nil=>intro a h;exact h
    |cons y r ih=>intro a h;obtain⟨_,g2,g3,g4⟩:=h;have:=ih _ g4;omega
   exact this _ _ h4
  rw[fH]
  split
  ·exact Bq b bd lo to r out x.2.1 x.2.2 h4 h3 (ho.mono (by omega))
  ·split
   ·exact⟨ho,by simp only[Vg];omega,hz⟩
   ·exact Bq b bd lo to r _ x.2.2 x.2.2 h4 (TY _) (ho.snoc (by omega) (by omega))
theorem Mk (b bd:Bs) {fr to:Nat} (h:fr≤to):CCh fr (dV b fr to bd).1 (dV b fr to bd).2.1∧(dV b fr to bd).2.1≤(dV b fr to bd).2.2∧(dV b fr to bd).2.2≤to:=
 Bq b bd fr to _ [] fr fr (Ig h) (TY _) (TY fr)
def KR (Q:Nat→Nat→Pt→Prop) (fin:Nat):List (Nat×Nat)→List Pt→Prop
 |[],[]=>True
 |c::r,q::ks=>Q c.2 (mQ fin r) q∧KR Q fin r ks
 |_,_=>False
theorem KR.len {Q:Nat→Nat→Pt→Prop} {fin:Nat}:∀{cs:List (Nat×Nat)} {ks:List Pt},KR Q fin cs ks→ks.length=cs.length
 |[],[],_=>rfl
 |c::r,q::ks,h=>by simp[KR.len h.2]
 |[],_::_,h=>h.elim
 |_::_,[],h=>h.elim
theorem Gr (ent:Nat→Nat→Nat→Pt×Nat) (Q:Nat→Nat→Pt→Prop) (len fin:Nat) (hf:fin≤len) (h:∀fr to n,fr≤to→to≤len→Q fr to (ent fr to n).1):∀(cs:List (Nat×Nat)) (n a:Nat),CCh a cs fin→KR Q fin cs (eV ent fin cs n).1
 |[],n,a,_=>by rw[eV];trivial
 |c::r,n,a,hc=>by
  obtain⟨h1,h2,h3⟩:=hc
  have hx:c.2≤mQ fin r∧mQ fin r≤len:=by
   cases r with
   |nil=>exact⟨h3,hf⟩
   |cons x r=>have h5:=h3.2.2.le;have h4:=h3.2.1;have h6:=h3.1;simp only[mQ];omega
  rw[eV]
  refine⟨?_,Gr ent Q len fin hf h r _ _ h3⟩
  rw[Nat.max_eq_left hx.1]
  exact h _ _ _ hx.1 hx.2
theorem vI (b:Bs) (P:Nat→Nat→Nat→Pt→Prop)
  (leaf:∀d fr at_ to,fr≤at_→at_≤to→to≤b.length→P d fr to (eM fr at_ to))
  (multi:∀d fr at_ to cs (e:Nat×Nat) ks,fr≤at_→at_≤to→to≤b.length→CCh at_ cs e.1→e.1≤e.2→e.2≤to→0<cs.length→KR (P d) e.1 cs ks→P (d+1) fr to (.mk 1 (fr,at_) (at_,to) ks cs e))
  (msg:∀d fr at_ to q,fr≤at_→at_≤to→to≤b.length→q.hd.1=at_→q.bd.2=to→P d at_ to q→P (d+1) fr to (.mk 2 (fr,at_) (at_,to) [q] [] (0,0))):
  ∀(d fr to:Nat) (dg:Bool) (n:Nat),fr≤to→to≤b.length→P d fr to (cN b d fr to dg n).1
 |0,fr,to,dg,n,hft,htl=>by
  have:=Bp b hft
  rw[cN]
  exact leaf _ _ _ _ this.1 this.2 htl
 |d+1,fr,to,dg,n,hft,htl=>by
  have hsp:=Bp b hft
  generalize h1:(dQ b (fr:Nat) (to:Nat)).1=l
  generalize h2:(dQ b (fr:Nat) (to:Nat)).2.toNat=at_ at hsp
  obtain⟨t,u,ps,h3⟩:∃t u ps,mP b l dg=(t,u,ps):=⟨_,_,_,rfl⟩
  generalize h4:(getF ps bdB).getD []=bd
  obtain⟨cs,e,h5⟩:∃cs e,dV b at_ to bd=(cs,e):=⟨_,_,rfl⟩
  have hch:=Mk b bd hsp.2
  rw[h5]at hch
  have hle:e.1≤b.length:=by have:=hch.2.1;have:=hch.2.2;simp only at *;omega
  have ih:=vI b P leaf multi msg d
  rw[Eo b d fr to dg n h1 h2 h3 h4 h5]
  split
  ·split
   ·rename_i g
    exact multi d fr at_ to cs e _ hsp.1 hsp.2 htl hch.1 hch.2.1 hch.2.2 g.1 (Gr _ (P d) b.length e.1 hle (fun fr to n a1 a2=>ih fr to _ n a1 a2) cs _ _ hch.1)
   ·exact leaf _ _ _ _ hsp.1 hsp.2 htl
  ·split
   ·obtain⟨k1,k2⟩:=I1 b d at_ to false (n+1)
    exact msg d fr at_ to _ hsp.1 hsp.2 htl (by rw[k1]) (by rw[k2]) (ih _ _ _ _ hsp.2 htl)
   ·exact leaf _ _ _ _ hsp.1 hsp.2 htl
def Chn:Nat→List (Nat×Nat×Nat)→Nat→Prop
 |a,[],z=>a=z
 |a,t::r,z=>t.1≤5∧t.2.1=a∧a≤t.2.2∧Chn t.2.2 r z
theorem Chn.app {z y:Nat} {m:List (Nat×Nat×Nat)} (hm:Chn z m y):∀{l:List (Nat×Nat×Nat)} {a:Nat},Chn a l z→Chn a (l++m) y
 |[],a,h=>by have:a=z:=h;subst this;exact hm
 |t::r,a,h=>⟨h.1,h.2.1,h.2.2.1,Chn.app hm h.2.2.2⟩
theorem Chn.le {z:Nat}:∀{l:List (Nat×Nat×Nat)} {a:Nat},Chn a l z→a≤z
 |[],a,h=>Nat.le_of_eq h
 |t::r,a,h=>Uy h.2.2.1 (Chn.le h.2.2.2)
theorem Chn.chainT {z:Nat}:∀{l:List (Nat×Nat×Nat)} {a:Nat},Chn a l z→chainT (a:Nat) l=some (z:Nat)
 |[],a,h=>by have:a=z:=h;subst this;rfl
 |t::r,a,h=>by
  obtain⟨_,h1,h2,h3⟩:=h
  rw[Go.Proofs.YtgpofjbdjiajeaaGreatDoor.chainT,if_pos ⟨by omega,by omega⟩]
  exact Chn.chainT h3
theorem Ml {fin:Nat} {d:Nat}:∀{cs:List (Nat×Nat)} {ks:List Pt} {a:Nat},CCh a cs fin→KR (fun fr to q=>Chn fr (aV q) to) fin cs ks→Chn (mQ fin cs) (fX cs (bR ks)) fin
 |[],[],a,_,_=>rfl
 |c::r,q::ks,a,h,hk=>by
  obtain⟨h1,h2,h3⟩:=h
  have:=Ml (d:=d) h3 hk.2
  rw[bR]
  exact⟨by simp,rfl,h2,this.app hk.1⟩
 |[],_::_,_,_,h=>h.elim
 |_::_,[],_,_,h=>h.elim
theorem Gs (b:Bs) (d fr to:Nat) (dg:Bool) (n:Nat) (h1:fr≤to) (h2:to≤b.length):Chn fr (aV (cN b d fr to dg n).1) to:=by
 refine vI b (fun _ fr to p=>Chn fr (aV p) to) ?_ ?_ ?_ d fr to dg n h1 h2
 ·intro d fr at_ to k1 k2 k3
  unfold eM
  rw[aV,if_neg (by decide),if_neg (by decide)]
  exact⟨by simp,rfl,k1,by simp,rfl,k2,rfl⟩
 ·intro d fr at_ to cs e ks k1 k2 k3 k4 k5 k6 k7 k8
  have hl:=k8.len
  have hz:=Ml (d:=d) k4 k8
  rw[aV,if_pos rfl,if_pos (by omega)]
  cases cs with
  |nil=>simp at k7
  |cons c r=>
   refine⟨by simp,rfl,k1,by simp,rfl,k4.1,?_⟩
   refine Chn.app ?_ hz
   exact⟨by simp,rfl,k5,by simp,rfl,k6,rfl⟩
 ·intro d fr at_ to q k1 k2 k3 k4 k5 k6
  rw[aV,if_neg (by decide),if_pos rfl]
  exact⟨by simp,rfl,k1,k6⟩
mutual
def pL:Pt→Prop
 | .mk k h b kids cuts e=>((k=0∧cuts=[]∧e=(0,0)∧kids=[])∨(k=1∧0<kids.length∧kids.length=cuts.length)∨(k=2∧cuts=[]∧e=(0,0)∧∃q,kids=[q]∧q.hd.1=b.1∧q.bd.2=b.2))∧h.2=b.1∧b.1≤b.2∧mR kids
def mR:List Pt→Prop
 |[]=>True
 |p::r=>pL p∧mR r
end
theorem I2 {fin:Nat}:∀{cs:List (Nat×Nat)} {ks:List Pt},KR (fun _ _ q=>pL q) fin cs ks→mR ks
 |[],[],_=>by rw[mR];trivial
 |c::r,q::ks,h=>by rw[mR];exact⟨h.1,I2 h.2⟩
 |[],_::_,h=>h.elim
 |_::_,[],h=>h.elim
theorem Dg (b:Bs) (d fr to:Nat) (dg:Bool) (n:Nat) (h1:fr≤to) (h2:to≤b.length):pL (cN b d fr to dg n).1:=by
 refine vI b (fun _ _ _ p=>pL p) ?_ ?_ ?_ d fr to dg n h1 h2
 ·intro d fr at_ to k1 k2 k3
  unfold eM
  rw[pL,mR]
  exact⟨.inl ⟨rfl,rfl,rfl,rfl⟩,rfl,k2,trivial⟩
 ·intro d fr at_ to cs e ks k1 k2 k3 k4 k5 k6 k7 k8
  have hl:=k8.len
  rw[pL]
  exact⟨.inr (.inl ⟨rfl,by omega,hl⟩),rfl,k2,I2 k8⟩
 ·intro d fr at_ to q k1 k2 k3 k4 k5 k6
  rw[pL,mR,mR]
  exact⟨.inr (.inr ⟨rfl,rfl,rfl,q,rfl,k4,k5⟩),rfl,k2,k6,trivial⟩
theorem OO {fin d:Nat}:∀{cs:List (Nat×Nat)} {ks:List Pt},KR (fun _ _ q=>dpF q≤d) fin cs ks→dpL ks≤d+1
 |[],[],_=>by simp[dpL]
 |c::r,q::ks,h=>by have:=OO h.2;have:=h.1;rw[dpL];omega
 |[],_::_,h=>h.elim
 |_::_,[],h=>h.elim
theorem I3 (b:Bs) (d fr to:Nat) (dg:Bool) (n:Nat) (h1:fr≤to) (h2:to≤b.length):dpF (cN b d fr to dg n).1≤d:=by
 refine vI b (fun d _ _ p=>dpF p≤d) ?_ ?_ ?_ d fr to dg n h1 h2
 ·intro d fr at_ to k1 k2 k3
  unfold eM
  simp[dpF,dpL]
 ·intro d fr at_ to cs e ks k1 k2 k3 k4 k5 k6 k7 k8
  rw[dpF];exact OO k8
 ·intro d fr at_ to q k1 k2 k3 k4 k5 k6
  simp only[dpF,dpL];omega
mutual
theorem rQ:∀p:Pt,(aV p).length+1≤5*cntF p
 | .mk k h b kids cuts e=>by
  have:=Br cuts kids
  have h2:=Gt kids
  rw[aV,cntF]
  split
  ·simp only[Ua,Ug,Uh];omega
  ·split
   ·simp only[Ua];omega
   ·simp only[Ua,Uh];omega
theorem Br:∀(cs:List (Nat×Nat)) (l:List Pt),(fX cs (bR l)).length≤5*dW l
 |[],l=>by simp[fX]
 |c::cs,[]=>by rw[bR];simp[fX]
 |c::cs,p::r=>by
  have h1:=rQ p
  have h2:=Br cs r
  rw[bR,dW]
  simp only[fX,Ua,Ug]
  omega
theorem Gt:∀l:List Pt,((bR l).headD []).length≤5*dW l
 |[]=>by simp[bR]
 |p::r=>by
  have h1:=rQ p
  rw[bR,dW,Uc];omega
end
end Go.Proofs.YtgpofjbdjiajeaaGreatDoor
end
section
namespace Go.Proofs.YtgpofjbdjiajeaaGreatDoor
open Go.Ev Go
def tW:Nat→Nat→Bs
 |0,x=>[Uo x]
 |n+1,x=>if x<128 then[Uo x]else Uo (x % 128+128)::tW n (x / 128)
def dO (x:Nat):Bs:=tW 10 x
theorem Bt (n:Nat) {x:Nat} (h:x<128):tW n x=[Uo x]:=by
 cases n with
 |zero=>rfl
 |succ n=>rw[tW,if_pos h]
theorem Gu:∀(n x:Nat),1≤(tW n x).length∧(tW n x).length≤n+1
 |0,x=>by simp[tW]
 |n+1,x=>by
  rw[tW]
  split
  ·simp
  ·have:=Gu n (x / 128)
   simp only[Ua];omega
theorem dG (x:Nat):1≤(dO x).length∧(dO x).length≤11:=Gu 10 x
abbrev PR (α:Type):=Except Int (α×Bs)
def sC {α:Type} (v:α):Bs→PR α:=fun s=> .ok (v,s)
def Gv {α:Type} (e:Int):Bs→PR α:=fun _=> .error e
def dA {α β:Type} (P:Bs→PR α) (Q:α→Bs→PR β):Bs→PR β:=fun s=>match P s with| .error e=> .error e| .ok p=>Q p.1 p.2
theorem bJ {α β:Type} {P:Bs→PR α} {Q:α→Bs→PR β} {s:Bs} {w:β×Bs} (h:dA P Q s= .ok w):∃v r,P s= .ok (v,r)∧Q v r= .ok w:=by
 unfold dA at h
 split at h
 ·cases h
 ·rename_i p hp;exact⟨p.1,p.2,hp,h⟩
theorem aZ {α β:Type} {P:Bs→PR α} {Q:α→Bs→PR β} {s:Bs} {v:α} {r:Bs} (h:P s= .ok (v,r)):dA P Q s=Q v r:=by
 unfold dA;rw[h]
theorem cA {α β:Type} {P:Bs→PR α} {Q:α→Bs→PR β} {s:Bs} {e:Int} (h:P s= .error e):dA P Q s= .error e:=by
 unfold dA;rw[h]
def Pre {α:Type} (P:Bs→PR α):Prop:=∀s v r,P s= .ok (v,r)→∀t u,s=t++u→P t= .error 10∨∃r',P t= .ok (v,r')∧r=r' ++u
theorem Pre.ret {α:Type} (v:α):Pre (sC v):=by
 intro s v' r h t u hs
 cases h
 exact .inr ⟨t,rfl,hs⟩
theorem Pre.err {α:Type} (e:Int):Pre (Gv (α:=α) e):=by intro s v r h;cases h
theorem Pre.then {α β:Type} {P:Bs→PR α} {Q:α→Bs→PR β} (hP:Pre P) (hQ:∀v,Pre (Q v)):Pre (dA P Q):=by
 intro s w r h t u hs
 obtain⟨v,r1,h1,h2⟩:=bJ h
 rcases hP s v r1 h1 t u hs with h3|⟨r',h3,h4⟩
 ·exact .inl (cA h3)
 ·rcases hQ v r1 w r h2 r' u h4 with h5|⟨r'',h5,h6⟩
  ·exact .inl (by rw[aZ h3];exact h5)
  ·exact .inr ⟨r'',by rw[aZ h3];exact h5,h6⟩
def Eat {α:Type} (n:Nat) (P:Bs→PR α):Prop:=∀s v r,P s= .ok (v,r)→r.length+n≤s.length
theorem Eat.ret {α:Type} (v:α):Eat 0 (sC v):=by intro s v' r h;cases h;omega
theorem Eat.err {α:Type} (n:Nat) (e:Int):Eat n (Gv (α:=α) e):=by intro s v r h;cases h
theorem Eat.then {α β:Type} {P:Bs→PR α} {Q:α→Bs→PR β} {m n:Nat} (hP:Eat m P) (hQ:∀v,Eat n (Q v)):Eat (m+n) (dA P Q):=by
 intro s w r h
 obtain⟨v,r1,h1,h2⟩:=bJ h
 have:=hP s v r1 h1
 have:=hQ v r1 w r h2
 omega
def lX:Nat→Nat→Bs→PR Nat
 |_,_,[]=> .error 10
 |i,x,c::r=>if(0<i∧c.toNat=0)∨40<i*7 then .error 11 else
  if c.toNat<128 then(if 1099511627776≤x+c.toNat % 128*2 ^ (i*7)then .error 11 else .ok (x+c.toNat % 128*2 ^ (i*7),r))
  else lX (i+1) (x+c.toNat % 128*2 ^ (i*7)) r
def lU:Bs→PR Nat:=lX 0 0
theorem Bu:∀(s:Bs) (i x v:Nat) (r:Bs),lX i x s= .ok (v,r)→r.length+1≤s.length∧v<1099511627776
 |[],i,x,v,r,h=>by rw[lX]at h;cases h
 |c::s,i,x,v,r,h=>by
  rw[lX]at h
  split at h
  ·cases h
  ·split at h
   ·split at h
    ·cases h
    ·cases h
     simp;omega
   ·have:=Bu s _ _ v r h
    simp only[Ua];omega
theorem dY:Eat 1 lU:=fun s v r h=>(Bu s 0 0 v r h).1
theorem mS {s:Bs} {v:Nat} {r:Bs} (h:lU s= .ok (v,r)):v<1099511627776:=(Bu s 0 0 v r h).2
theorem P0 (i:Nat):2 ^ ((i+1)*7)=2 ^ (i*7)*128:=by rw[show(i+1)*7=i*7+7 by omega,Nat.pow_add]
theorem Bv {y:Nat} (h:y<256):(Uo y).toNat=y:=by rw[Vm];omega
theorem Mm:∀(n i x y:Nat) (r:Bs),y<128 ^ (n+1)→(i=0∨0<y)→x+y*2 ^ (i*7)<1099511627776→lX i x (tW n y++r)= .ok (x+y*2 ^ (i*7),r):=by
 have hi7:∀i x y:Nat,(i=0∨0<y)→x+y*2 ^ (i*7)<1099511627776→¬40<i*7:=by
  intro i x y h0 hlt hc
  rcases h0 with rfl|h0
  ·omega
  ·have h1:2 ^ 41≤2 ^ (i*7):=Nat.pow_le_pow_right (by omega) (by omega)
   have h2:1*2 ^ (i*7)≤y*2 ^ (i*7):=Vi _ h0
   have h3:(2:Nat) ^ 41=2199023255552:=rfl
   omega
 have small:∀i x y:Nat,y<128→(i=0∨0<y)→x+y*2 ^ (i*7)<1099511627776→∀r,lX i x (Uo y::r)= .ok (x+y*2 ^ (i*7),r):=by
  intro i x y hy h0 hlt r
  rw[lX,Bv (by omega),if_neg (by have:=hi7 i x y h0 hlt;omega),if_pos hy,Vz hy,if_neg (by omega)]
 intro n
 induction n with
 |zero=>intro i x y r hy h0 hlt;exact small i x y (by simpa using hy) h0 hlt r
 |succ n ih=>
  intro i x y r hy h0 hlt
  rw[tW]
  by_cases h:y<128
  ·rw[if_pos h];exact small i x y h h0 hlt r
  ·rw[if_neg h,UA,lX,Bv (by omega),if_neg (by have:=hi7 i x y h0 hlt;omega),if_neg (by omega)]
   have e1:(y % 128+128) % 128=y % 128:=by omega
   have e2:x+y % 128*2 ^ (i*7)+y / 128*2 ^ ((i+1)*7)=x+y*2 ^ (i*7):=by
    have e:y=y % 128+128* (y / 128):=by omega
    have:y*2 ^ (i*7)=y % 128*2 ^ (i*7)+y / 128* (2 ^ (i*7)*128):=by
     conv=>lhs;rw[e]
     rw[Vh]
     congr 1
     rw[VN 128,Nat.mul_assoc,VN 128]
    rw[P0,this,Vf]
   have hd:y / 128<128 ^ (n+1):=by
    rw[Wu]at hy
    exact Nat.div_lt_of_lt_mul (by rw[VN];exact hy)
   rw[e1,ih (i+1) (x+y % 128*2 ^ (i*7)) (y / 128) r hd (.inr (by omega)) (by rw[e2];exact hlt),e2]
theorem kB {y:Nat} (h:y<1099511627776) (r:Bs):lU (dO y++r)= .ok (y,r):=by
 have h2:(1099511627776:Nat)≤128 ^ (10+1):=by decide
 have:=Mm 10 0 0 y r (by omega) (.inl rfl) (by simpa using h)
 rw[show 0+y*2 ^ (0*7)=y by simp]at this
 exact this
theorem Gw:∀(s:Bs) (i x v:Nat) (r:Bs),i≤6→lX i x s= .ok (v,r)→∃y,v=x+y*2 ^ (i*7)∧(0<i→0<y)∧∀m,5≤m+i→s=tW m y++r
 |[],i,x,v,r,_,h=>by rw[lX]at h;cases h
 |c::s,i,x,v,r,hi,h=>by
  have hc:=c.toNat_lt
  rw[lX]at h
  split at h
  ·cases h
  ·rename_i h1
   split at h
   ·rename_i h2
    split at h
    ·cases h
    ·cases h
     refine⟨c.toNat,by rw[Vz h2],fun h0=>by omega,fun m _=>?_⟩
     rw[Bt m h2]
     have:Uo c.toNat=c:=by simp
     rw[this];rfl
   ·rename_i h2
    have hi5:i≤5:=by omega
    obtain⟨y,e1,e2,e3⟩:=Gw s (i+1) _ v r (by omega) h
    have hy:=e2 (by omega)
    refine⟨c.toNat % 128+128*y,?_,fun _=>by omega,fun m hm=>?_⟩
    ·rw[e1,P0,Vh,Vf]
     congr 2
     rw[VN 128 y,Nat.mul_assoc,VN 128]
    ·obtain⟨m,rfl⟩:∃k,m=k+1:=⟨m - 1,by
      rcases VH m with hm0|hm0
      ·exfalso
       subst hm0
       have:i=5:=by omega
       subst this
       cases s with
       |nil=>rw[lX]at h;cases h
       |cons d s=>rw[lX,if_pos (.inr (by omega))]at h;cases h
      ·omega⟩
     rw[tW,if_neg (by omega),e3 m (by omega)]
     have q1:(c.toNat % 128+128*y) % 128+128=c.toNat:=by omega
     have q2:(c.toNat % 128+128*y) / 128=y:=by omega
     have q3:Uo c.toNat=c:=by simp
     rw[q1,q2,q3];rfl
theorem lV {s:Bs} {v:Nat} {r:Bs} (h:lU s= .ok (v,r)):s=dO v++r:=by
 obtain⟨y,e1,_,e3⟩:=Gw s 0 0 v r (by omega) h
 have:v=y:=by simpa using e1
 subst this
 exact e3 10 (by omega)
def sT:Bs→PR Nat
 |a::b::c::d::r=> .ok (leN [a,b,c,d],r)
 |_=> .error 10
theorem Kg:Eat 4 sT:=by
 intro s v r h
 match s,h with
 |a::b::c::d::s,h=>cases h;simp
theorem Kh {x:Nat} (h:x<2 ^ 32) (r:Bs):sT (le4 x++r)= .ok (x,r):=by
 show Except.ok (leN (le4 x),r)=_
 rw[IR h]
theorem Ki {s:Bs} {v:Nat} {r:Bs} (h:sT s= .ok (v,r)):s=le4 v++r:=by
 match s,h with
 |a::b::c::d::s,h=>
  cases h
  rw[IS];rfl
def iF (a:Nat):Bs→PR (Nat×Nat):=dA lU fun x=>dA lU fun y=>sC (a+x,a+x+y)
theorem Dh (a:Nat):Eat 2 (iF a):=dY.then fun _=>dY.then fun _=>Eat.ret _
theorem Di {a:Nat} {c:Nat×Nat} (h1:a≤c.1) (h2:c.1≤c.2) (h3:c.2<1099511627776) (r:Bs):iF a (dO (c.1 - a)++(dO (c.2 - c.1)++r))= .ok (c,r):=by
 unfold iF
 rw[aZ (kB (by omega) _),aZ (kB (by omega) _)]
 show Except.ok ((a+(c.1 - a),a+(c.1 - a)+(c.2 - c.1)),r)=_
 rw[show a+(c.1 - a)=c.1 by omega,show c.1+(c.2 - c.1)=c.2 by omega]
theorem rR {a:Nat} {s:Bs} {c:Nat×Nat} {r:Bs} (h:iF a s= .ok (c,r)):s=dO (c.1 - a)++(dO (c.2 - c.1)++r)∧a≤c.1∧c.1≤c.2∧c.2+1099511627776*r.length≤a+1099511627776*s.length:=by
 obtain⟨x,r1,h1,h2⟩:=bJ h
 obtain⟨y,r2,h3,h4⟩:=bJ h2
 cases h4
 have e1:=lV h1
 have e2:=lV h3
 have:=mS h1
 have:=mS h3
 have:=dY _ _ _ h1
 have:=dY _ _ _ h3
 refine⟨?_,by show a≤a+x;omega,by show a+x≤a+x+y;omega,by show a+x+y+_≤_;omega⟩
 show s=dO (a+x - a)++(dO (a+x+y - (a+x))++r)
 rw[show a+x - a=x by omega,show a+x+y - (a+x)=y by omega,←e2,←e1]
def nX (g:Nat→Bs→PR Pt):Nat→Nat→Bs→PR (List (Nat×Nat)×List Pt×Nat)
 |0,a=>sC ([],[],a)
 |n+1,a=>dA (iF a) fun c=>dA (g c.2) fun q=>dA (nX g n q.bd.2) fun t=>sC (c::t.1,q::t.2.1,t.2.2)
def trT:Nat→Nat→Bs→PR Pt
 |0,_=>dA lU fun _=>Gv 11
 |d+1,a=>dA lU fun k=>if 2<k then Gv 11 else dA lU fun h=>dA lU fun b=>
  if k=0 then sC (eM a (a+h) (a+h+b))
  else if k=2 then dA (trT d (a+h)) fun q=>sC (.mk 2 (a,a+h) (a+h,a+h+b) [q] [] (0,0))
  else dA lU fun n=>if 1000<n then Gv 11 else dA (nX (fun a=>trT d a) n (a+h)) fun t=>dA (iF t.2.2) fun e=>sC (.mk 1 (a,a+h) (a+h,a+h+b) t.2.1 t.1 e)
end Go.Proofs.YtgpofjbdjiajeaaGreatDoor
end
section
namespace Go.Proofs.YtgpofjbdjiajeaaGreatDoor
open Go.Ev Go
def pR:Nat→List (Nat×Nat)→List (Bs×Nat)→Bs×Nat
 |a,c::cs,k::ks=>(dO (c.1 - a)++(dO (c.2 - c.1)++(k.1++(pR k.2 cs ks).1)),(pR k.2 cs ks).2)
 |a,_,_=>([],a)
mutual
def kT:Pt→Bs
 | .mk k h b kids cuts e=>dO k++(dO (h.2 - h.1)++(dO (b.2 - b.1)++
  (if k=2 then(((kJ kids).head?).getD ([],0)).1
   else if k=1 then dO kids.length++((pR b.1 cuts (kJ kids)).1++(dO (e.1 - (pR b.1 cuts (kJ kids)).2)++dO (e.2 - e.1)))
   else[])))
def kJ:List Pt→List (Bs×Nat)
 |[]=>[]
 |p::r=>(kT p,p.bd.2)::kJ r
end
mutual
def WL:Nat→Pt→Prop
 |a, .mk k h b kids cuts e=>h.1=a∧h.1≤h.2∧h.2=b.1∧b.1≤b.2∧
  ((k=0∧kids=[]∧cuts=[]∧e=(0,0))∨(k=2∧cuts=[]∧e=(0,0)∧WL1 b.1 kids)∨
   (k=1∧∃z,WLs b.1 cuts kids z∧z≤e.1∧e.1≤e.2))
def WL1:Nat→List Pt→Prop
 |a,[q]=>WL a q
 |_,_=>False
def WLs:Nat→List (Nat×Nat)→List Pt→Nat→Prop
 |a,cs,q::ks,z=>∃c r,cs=c::r∧a≤c.1∧c.1≤c.2∧WL c.2 q∧WLs q.bd.2 r ks z
 |a,cs,[],z=>cs=[]∧a=z
end
mutual
def SmL (m:Nat):Pt→Prop
 | .mk _ h b kids cuts e=>h.2<m∧b.2<m∧(∀c∈cuts,c.2<m)∧e.2<m∧kids.length≤1000∧Gx m kids
def Gx (m:Nat):List Pt→Prop
 |[]=>True
 |p::r=>SmL m p∧Gx m r
end
theorem zF:∀(ks:List Pt) (cs:List (Nat×Nat)) (a z:Nat),WLs a cs ks z→(pR a cs (kJ ks)).2=z∧cs.length=ks.length
 |[],cs,a,z,h=>by
  rw[WLs]at h
  obtain⟨rfl,rfl⟩:=h
  exact⟨rfl,rfl⟩
 |q::ks,cs,a,z,h=>by
  rw[WLs]at h
  obtain⟨c,r,rfl,_,_,_,h4⟩:=h
  have:=zF ks r q.bd.2 z h4
  rw[kJ,pR]
  exact⟨this.1,by simp[this.2]⟩
mutual
theorem get_put:∀(p:Pt) (d a:Nat) (r:Bs),WL a p→SmL 1099511627776 p→dpF p<d→trT d a (kT p++r)= .ok (p,r)
 | .mk k h b kids cuts e,0,a,r,_,_,hd=>by omega
 | .mk k h b kids cuts e,d+1,a,r,hw,hs,hd=>by
  rw[WL]at hw
  rw[SmL]at hs
  rw[dpF]at hd
  obtain⟨h1,h2⟩:=h
  obtain⟨b1,b2⟩:=b
  simp only at hw hs
  obtain⟨rfl,w2,rfl,w4,hk⟩:=hw
  obtain⟨s1,s2,s3,s4,s5,s6⟩:=hs
  have hk2:k≤2:=by rcases hk with h|h|h<;>omega
  have e1:h1+(h2 - h1)=h2:=by omega
  have e2:h2+(b2 - h2)=b2:=by omega
  rw[kT]
  simp only[Ud]
  rw[trT,aZ (kB (by omega) _),if_neg (by omega),aZ (kB (by omega) _),aZ (kB (by omega) _),e1,e2]
  rcases hk with⟨rfl,rfl,rfl,rfl⟩|⟨rfl,rfl,rfl,hk⟩|⟨rfl,z,hk,hz1,hz2⟩
  ·rw[if_pos rfl,if_neg (by decide),if_neg (by decide)]
   rfl
  ·match kids,hk,hd,s6 with
   |[q],hk,hd,s6=>
    rw[WL1]at hk
    rw[Gx]at s6
    rw[dpL]at hd
    have:=get_put q d h2 r hk s6.1 (by omega)
    rw[if_neg (by decide),if_pos rfl,if_pos rfl]
    have e3:(((kJ [q]).head?).getD ([],0)).1=kT q:=by rw[kJ];rfl
    rw[e3,aZ this]
    rfl
  ·obtain⟨e5,e6⟩:=zF kids cuts h2 z hk
   have:=Gy kids cuts d h2 z (dO (e.1 - z)++(dO (e.2 - e.1)++r)) hk s3 s6 (by omega)
   rw[if_neg (by decide),if_neg (by decide),if_neg (by decide),if_pos rfl]
   simp only[Ud]
   rw[aZ (kB (by omega) _),if_neg (by omega),e5,aZ this]
   show dA (iF z) _ _=_
   rw[aZ (Di hz1 hz2 s4 _)]
   rfl
theorem Gy:∀(ks:List Pt) (cs:List (Nat×Nat)) (d a z:Nat) (r:Bs),WLs a cs ks z→(∀c∈cs,c.2<1099511627776)→Gx 1099511627776 ks→dpL ks≤d→
  nX (fun a=>trT d a) ks.length a ((pR a cs (kJ ks)).1++r)= .ok ((cs,ks,z),r)
 |[],cs,d,a,z,r,h,_,_,_=>by
  rw[WLs]at h
  obtain⟨rfl,rfl⟩:=h
  rfl
 |q::ks,cs,d,a,z,r,h,hc,hs,hd=>by
  rw[WLs]at h
  obtain⟨c,cr,rfl,h1,h2,h3,h4⟩:=h
  rw[Gx]at hs
  rw[dpL]at hd
  have g1:=get_put q d c.2 ((pR q.bd.2 cr (kJ ks)).1++r) h3 hs.1 (by omega)
  have g2:=Gy ks cr d q.bd.2 z r h4 (fun x hx=>hc x (by simp[hx])) hs.2 (by omega)
  rw[Ua,nX,kJ,pR]
  simp only[Ud]
  rw[aZ (Di h1 h2 (hc c (by simp)) _),aZ g1,aZ g2]
  rfl
end
mutual
theorem jJ {x y:Nat} (hxy:x≤y):∀{p:Pt},fV x p→fV y p
 | .mk k hh b kids cuts e,h=>by
  rw[fV]at h ⊢
  obtain⟨g1,g2,g3,g4,g5,g6,g7,g8,g9⟩:=h
  exact⟨by omega,by omega,by omega,by omega,fun c hc=>by have:=g5 c hc;omega,by omega,by omega,by omega,mT hxy g9⟩
theorem mT {x y:Nat} (hxy:x≤y):∀{l:List Pt},dX x l→dX y l
 |[],_=>by rw[dX];trivial
 |p::l,h=>by
  rw[dX]at h ⊢
  exact⟨jJ hxy h.1,mT hxy h.2⟩
end
theorem Gz {g:Nat→Bs→PR Pt} (hg:∀a s p r,g a s= .ok (p,r)→s=kT p++r∧WL a p∧p.bd.2+1099511627776*r.length≤a+1099511627776*s.length∧cntF p+r.length≤s.length∧fV (a+1099511627776*s.length) p):
  ∀(n a:Nat) (s:Bs) (t:List (Nat×Nat)×List Pt×Nat) (r:Bs),nX g n a s= .ok (t,r)→
   s=(pR a t.1 (kJ t.2.1)).1++r∧WLs a t.1 t.2.1 t.2.2∧t.2.1.length=n∧t.2.2+1099511627776*r.length≤a+1099511627776*s.length∧dW t.2.1+r.length≤s.length∧dX (a+1099511627776*s.length) t.2.1∧(∀c∈t.1,c.1≤a+1099511627776*s.length∧c.2≤a+1099511627776*s.length)
 |0,a,s,t,r,h=>by
  cases h
  refine⟨rfl,by rw[WLs];exact⟨rfl,rfl⟩,rfl,TY _,by simp[dW],by rw[dX];trivial,fun c hc=>by cases hc⟩
 |n+1,a,s,t,r,h=>by
  obtain⟨c,r1,h1,h⟩:=bJ h
  obtain⟨q,r2,h2,h⟩:=bJ h
  obtain⟨t',r3,h3,h4⟩:=bJ h
  cases h4
  obtain⟨a1,a2,a3,a4⟩:=rR h1
  obtain⟨b1,b2,b3,b4,b5⟩:=hg _ _ _ _ h2
  obtain⟨c1,c2,c3,c4,c5,c6,c7⟩:=Gz hg n _ _ _ _ h3
  have h5:=Dh _ _ _ _ h1
  refine⟨?_,?_,by simp[c3],by simp only;omega,?_,?_,?_⟩
  ·rw[kJ,pR]
   simp only[Ud]
   rw[←c1,←b1,←a1]
  ·rw[WLs]
   exact⟨c,t'.1,rfl,a2,a3,b2,c2⟩
  ·simp only[dW];omega
  ·rw[dX]
   exact⟨jJ (by omega) b5,mT (by omega) c6⟩
  ·intro x hx
   rcases UH.1 hx with rfl|hx
   ·omega
   ·have:=c7 x hx;omega
theorem vJ:∀(d a:Nat) (s:Bs) (p:Pt) (r:Bs),trT d a s= .ok (p,r)→s=kT p++r∧WL a p∧p.bd.2+1099511627776*r.length≤a+1099511627776*s.length∧cntF p+r.length≤s.length∧fV (a+1099511627776*s.length) p
 |0,a,s,p,r,h=>by
  obtain⟨k,r1,_,h⟩:=bJ h
  cases h
 |d+1,a,s,p,r,h=>by
  obtain⟨k,r1,h1,ga⟩:=bJ h
  clear h
  by_cases hk:2<k
  ·rw[if_pos hk]at ga;cases ga
  rw[if_neg hk]at ga
  obtain⟨x,r2,h2,gb⟩:=bJ ga
  clear ga
  obtain⟨y,r3,h3,gc⟩:=bJ gb
  clear gb
  have e1:=lV h1
  have e2:=lV h2
  have e3:=lV h3
  have l2:=mS h2
  have l3:=mS h3
  have q1:=dY _ _ _ h1
  have q2:=dY _ _ _ h2
  have q3:=dY _ _ _ h3
  have d1:a+x - a=x:=by omega
  have d2:a+x+y - (a+x)=y:=by omega
  by_cases hk0:k=0
  ·rw[if_pos hk0]at gc
   subst hk0
   cases gc
   refine⟨?_,?_,?_,?_,?_⟩
   ·rw[eM,kT]
    rw[if_neg (by decide),if_neg (by decide)]
    simp only[d1,d2]
    simp only[Ud,UV]
    rw[←e3,←e2,←e1]
   ·rw[eM,WL]
    exact⟨rfl,by simp,rfl,by simp, .inl ⟨rfl,rfl,rfl,rfl⟩⟩
   ·show a+x+y+_≤_;omega
   ·simp only[eM,cntF,dW];omega
   ·rw[eM,fV]
    refine⟨?_,?_,?_,?_,(fun c hc=>by cases hc),?_,?_,?_,by rw[dX];trivial⟩<;>first|omega|(simp only[Uh];omega)|(simp only;omega)
  ·rw[if_neg hk0]at gc
   by_cases hk2:k=2
   ·rw[if_pos hk2]at gc
    subst hk2
    obtain⟨q,r4,h4,gd⟩:=bJ gc
    clear gc
    cases gd
    obtain⟨b1,b2,b3,b4,b5⟩:=vJ d _ _ _ _ h4
    refine⟨?_,?_,?_,?_,?_⟩
    ·rw[kT]
     rw[if_pos rfl]
     simp only[d1,d2]
     have e4:(((kJ [q]).head?).getD ([],0)).1=kT q:=by rw[kJ];rfl
     rw[e4]
     simp only[Ud]
     rw[←b1,←e3,←e2,←e1]
    ·rw[WL]
     exact⟨rfl,by simp,rfl,by simp, .inr (.inl ⟨rfl,rfl,rfl,by rw[WL1];exact b2⟩)⟩
    ·show a+x+y+_≤_;omega
    ·simp only[cntF,dW];omega
    ·rw[fV]
     refine⟨?_,?_,?_,?_,(fun c hc=>by cases hc),?_,?_,?_,?_⟩
     ·first|omega|(simp only[Uh];omega)|(simp only;omega)
     ·first|omega|(simp only[Uh];omega)|(simp only;omega)
     ·first|omega|(simp only[Uh];omega)|(simp only;omega)
     ·first|omega|(simp only[Uh];omega)|(simp only;omega)
     ·first|omega|(simp only[Uh];omega)|(simp only;omega)
     ·first|omega|(simp only[Uh];omega)|(simp only;omega)
     ·first|omega|(simp only[Uh];omega)|(simp only;omega)
     ·rw[dX,dX]
      exact⟨jJ (by omega) b5,trivial⟩
   ·rw[if_neg hk2]at gc
    obtain⟨n,r4,h4,gd⟩:=bJ gc
    clear gc
    have hk1:k=1:=by omega
    subst hk1
    by_cases hn:1000<n
    ·rw[if_pos hn]at gd;cases gd
    rw[if_neg hn]at gd
    obtain⟨t,r5,h5,ge⟩:=bJ gd
    clear gd
    obtain⟨e,r6,h6,gf⟩:=bJ ge
    clear ge
    cases gf
    have e4:=lV h4
    have q4:=dY _ _ _ h4
    obtain⟨c1,c2,c3,c4,c5,c6,c7⟩:=Gz (fun a s p r h=>vJ d a s p r h) n _ _ _ _ h5
    obtain⟨a1,a2,a3,a4⟩:=rR h6
    have q6:=Dh _ _ _ _ h6
    obtain⟨z1,z2⟩:=zF _ _ _ _ c2
    refine⟨?_,?_,?_,?_,?_⟩
    ·rw[kT]
     rw[if_neg (by decide),if_pos rfl,z1,c3]
     simp only[d1,d2]
     simp only[Ud]
     rw[←a1,←c1,←e4,←e3,←e2,←e1]
    ·rw[WL]
     exact⟨rfl,by simp,rfl,by simp, .inr (.inr ⟨rfl,t.2.2,c2,a2,a3⟩)⟩
    ·show a+x+y+_≤_;omega
    ·simp only[cntF];omega
    ·rw[fV]
     refine⟨?_,?_,?_,?_,fun c hc=>?_,?_,?_,?_,?_⟩
     ·first|omega|(simp only[Uh];omega)|(simp only;omega)
     ·first|omega|(simp only[Uh];omega)|(simp only;omega)
     ·first|omega|(simp only[Uh];omega)|(simp only;omega)
     ·first|omega|(simp only[Uh];omega)|(simp only;omega)
     ·have:=c7 c hc;omega
     ·rw[z2,c3];omega
     ·first|omega|(simp only[Uh];omega)|(simp only;omega)
     ·first|omega|(simp only[Uh];omega)|(simp only;omega)
     ·exact mT (by omega) c6
end Go.Proofs.YtgpofjbdjiajeaaGreatDoor
end
section
namespace Go.Proofs.YtgpofjbdjiajeaaGreatDoor
open Go.Ev Go
open List (headD tail getD length drop take)
open V (getI getL getT getS getB)
set_option maxRecDepth 100000
variable (call : FuncId → Fun) (icall : aN (V × List Ob)) (again : List It → St → Option (V × List Ob))
def T17 (call:FuncId→Fun) (a0:List V) (a1:Int):Option (V×List Ob):=
 chk (decide (0≤(8:Int))) (chk (decide (0≤(16:Int))) (chk (decide (0≤(24:Int))) (chk (cE a0 [(V.int .u8 (TK .u8 a1)),(V.int .u8 (TK .u8 (V3 a1 (2 ^ min (TO (8:Int)) (Uz Uk))))),(V.int .u8 (TK .u8 (V3 a1 (2 ^ min (TO (16:Int)) (Uz Uk))))),(V.int .u8 (TK .u8 (V3 a1 (2 ^ min (TO (24:Int)) (Uz Uk)))))] 2) (some ((V.lst 5 true (a0++[(V.int .u8 (TK .u8 a1)),(V.int .u8 (TK .u8 (V3 a1 (2 ^ min (TO (8:Int)) (Uz Uk))))),(V.int .u8 (TK .u8 (V3 a1 (2 ^ min (TO (16:Int)) (Uz Uk))))),(V.int .u8 (TK .u8 (V3 a1 (2 ^ min (TO (24:Int)) (Uz Uk)))))])),[])))))
def A17 (a0:List V) (a1:Int):List V:=[V.lst 5 true a0,V.int Uk a1]
theorem E17 (a0:List V) (a1:Int):GO 17 Tryz.f17 (A17 a0 a1) [] call icall again=T17 call a0 a1:=by kernel_rfl
theorem C17 (k:Nat) (a0:List V) (a1:Int):aA cfg (k+1) 17 (A17 a0 a1) []=T17 (aA cfg k) a0 a1:=
 (show aA cfg (k+1) 17 (A17 a0 a1) []=GO 17 Tryz.f17 (A17 a0 a1) [] (aA cfg k) (aF cfg (aA cfg k) 20) (RN 17 Tryz.f17 [] (aA cfg k) (aF cfg (aA cfg k) 20) k)by kernel_rfl).trans (E17 _ _ _ a0 a1)
theorem M17 (a0:List V) (a1:Int) {r:V×List Ob} (h:Evt (fun k n=>T17 (aA cfg k) a0 a1) r):Ret 17 [V.lst 5 true a0,V.int Uk a1] [] r:=aR (g:=fun k n=>T17 (aA cfg k) a0 a1) (fun k=>C17 k a0 a1) h
def GA (call:FuncId→Fun) (ag0:List V→Int→Option (V×List Ob)) (l0:List V) (i1:Int):Option (V×List Ob):=
 if(decide (i1≥(128:Int)))=true then
 chk (cE l0 [(V.int .u8 (bits BinOp.or .u8 (TK .u8 i1) (128:Int)))] 2) (chk (decide (0≤(7:Int))) ((ag0 ((l0++[(V.int .u8 (bits BinOp.or .u8 (TK .u8 i1) (128:Int)))])) ((V3 i1 (2 ^ min (TO (7:Int)) (Uz .i64)))))))
 else
 chk (cE l0 [(V.int .u8 (TK .u8 i1))] 2) (some ((V.lst 5 true (l0++[(V.int .u8 (TK .u8 i1))])),[]))
def T18 (call:FuncId→Fun) (ag0:List V→Int→Option (V×List Ob)) (a0:List V) (a1:Int):Option (V×List Ob):=
 (ag0 (a0) (a1))
def A18 (a0:List V) (a1:Int):List V:=[V.lst 5 true a0,V.int TM a1]
def Dj (l0:List V) (i1:Int):St:=⟨[(V.lst 5 true l0),(V.int TM i1)]++TZ 18 V.bot,[]⟩
theorem Si (l0:List V) (i1:Int):
 RM 18 Tryz.f18 [] call icall again (aJ Tryz.f18 0) (Dj l0 i1)=GA call (fun l0 i1=>again (aJ Tryz.f18 0) (Dj l0 i1)) l0 i1:=by kernel_rfl
theorem E18 (a0:List V) (a1:Int):GO 18 Tryz.f18 (A18 a0 a1) [] call icall again=T18 call (fun l0 i1=>again (aJ Tryz.f18 0) (Dj l0 i1)) a0 a1:=by kernel_rfl
def L18 (call:FuncId→Fun):Nat→(List V→Int→Option (V×List Ob))
 |0=>fun _ _=>none
 |n+1=>GA call (L18 call n)
theorem R18 (call:FuncId→Fun) (icall:aN (V×List Ob)):∀n,(∀(l0:List V) (i1:Int),RN 18 Tryz.f18 [] call icall n (aJ Tryz.f18 0) (Dj l0 i1)=(L18 call n) l0 i1)
 |0=>fun l0 i1=>rfl
 |n+1=>by
  have ih:=R18 call icall n
  exact fun l0 i1=>(Si call icall (RN 18 Tryz.f18 [] call icall n) l0 i1).trans (by rw[show(fun l0 i1=>RN 18 Tryz.f18 [] call icall n (aJ Tryz.f18 0) (Dj l0 i1))=(L18 call n)from(funext fun l0=>funext fun i1=>ih l0 i1)];rfl)
theorem C18 (k:Nat) (a0:List V) (a1:Int):aA cfg (k+1) 18 (A18 a0 a1) []=T18 (aA cfg k) (L18 (aA cfg k) k) a0 a1:=by
 have ih:=R18 (aA cfg k) (aF cfg (aA cfg k) 20) k
 refine(show aA cfg (k+1) 18 (A18 a0 a1) []=GO 18 Tryz.f18 (A18 a0 a1) [] (aA cfg k) (aF cfg (aA cfg k) 20) (RN 18 Tryz.f18 [] (aA cfg k) (aF cfg (aA cfg k) 20) k)by kernel_rfl).trans ((E18 _ _ _ a0 a1).trans ?_)
 rw[show(fun l0 i1=>RN 18 Tryz.f18 [] (aA cfg k) (aF cfg (aA cfg k) 20) k (aJ Tryz.f18 0) (Dj l0 i1))=(L18 (aA cfg k) k)from(funext fun l0=>funext fun i1=>ih l0 i1)]
theorem M18 (a0:List V) (a1:Int) {r:V×List Ob} (h:Evt (fun k n=>T18 (aA cfg k) (L18 (aA cfg k) n) a0 a1) r):Ret 18 [V.lst 5 true a0,V.int TM a1] [] r:=aR (g:=fun k n=>T18 (aA cfg k) (L18 (aA cfg k) n) a0 a1) (fun k=>C18 k a0 a1) h
theorem OP (l0:List V) (i1:Int) {r:V×List Ob} (h:Evt (fun k n=>GA (aA cfg k) (L18 (aA cfg k) n) l0 i1) r):Evt (fun k n=>(L18 (aA cfg k) n) l0 i1) r:=aX (fun k n=>rfl) h
def GB (call:FuncId→Fun) (ag0:List V→Int→List V→Int→Int→Int→Int→Int→Int→Int→List V→List V→Int→Int→Option (V×List Ob)) (l0:List V) (i1:Int) (l2:List V) (i3:Int) (i4:Int) (i5:Int) (i6:Int) (i7:Int) (i8:Int) (i9:Int) (l10:List V) (l11:List V) (i12:Int) (i13:Int):Option (V×List Ob):=
 if(decide (i4<i3))=true then
 chk (decide (0≤i4)) (chk (decide (i4<((length l2:Nat):Int))) (chk (decide (0≤i4)) (chk (decide (i4<((length l11:Nat):Int))) (TN (call 18 [(V.lst 5 true l0),(V.int .i64 (TK .i64 ((getI (headD (V.cells (getD l11 (TO i4) V.bot)) V.bot)) - i1)))] []) fun z0=>
 TN (call 18 [(V.lst 5 true (getL z0.1)),(V.int .i64 (TK .i64 ((getI (headD (tail (V.cells (getD l11 (TO i4) V.bot))) V.bot)) - (getI (headD (V.cells (getD l11 (TO i4) V.bot)) V.bot)))))] []) fun z1=>
 TN (call 20 [(V.lst 5 true (getL z1.1)),(V.agg [(V.int .i64 (getI (headD (V.cells (getD l2 (TO i4) V.bot)) V.bot))),(V.int .i64 (getI (headD (tail (V.cells (getD l2 (TO i4) V.bot))) V.bot))),(V.int .i64 (getI (headD (tail (tail (V.cells (getD l2 (TO i4) V.bot)))) V.bot))),(V.int .i64 (getI (headD (tail (tail (tail (V.cells (getD l2 (TO i4) V.bot))))) V.bot))),(V.int .i64 (getI (headD (tail (tail (tail (tail (V.cells (getD l2 (TO i4) V.bot)))))) V.bot))),(V.lst 31 false (getL (headD (tail (tail (tail (tail (tail (V.cells (getD l2 (TO i4) V.bot))))))) V.bot))),(V.lst 27 false (getL (headD (tail (tail (tail (tail (tail (tail (V.cells (getD l2 (TO i4) V.bot)))))))) V.bot))),(V.int .i64 (getI (headD (tail (tail (tail (tail (tail (tail (tail (V.cells (getD l2 (TO i4) V.bot))))))))) V.bot))),(V.int .i64 (getI (headD (tail (tail (tail (tail (tail (tail (tail (tail (V.cells (getD l2 (TO i4) V.bot)))))))))) V.bot)))])] []) fun z2=>
 (ag0 ((getL z2.1)) ((getI (headD (tail (tail (tail (tail (V.cells (getD l2 (TO i4) V.bot)))))) V.bot))) (l2) (i3) ((TK .i64 (i4+(1:Int)))) (i5) (i6) (i7) (i8) (i9) (l10) (l11) (i12) (i13))))))
 else
 TN (call 18 [(V.lst 5 true l0),(V.int .i64 (TK .i64 (i12 - i1)))] []) fun z0=>
 TN (call 18 [(V.lst 5 true (getL z0.1)),(V.int .i64 (TK .i64 (i13 - i12)))] []) fun z1=>
 some ((V.lst 5 true (getL z1.1)),[])
def T20 (call:FuncId→Fun) (ag0:List V→Int→List V→Int→Int→Int→Int→Int→Int→Int→List V→List V→Int→Int→Option (V×List Ob)) (a0:List V) (a1:Int) (a2:Int) (a3:Int) (a4:Int) (a5:Int) (a6:List V) (a7:List V) (a8:Int) (a9:Int):Option (V×List Ob):=
 TN (call 18 [(V.lst 5 true a0),(V.int .i64 a1)] []) fun z0=>
 TN (call 18 [(V.lst 5 true (getL z0.1)),(V.int .i64 (TK .i64 (a3 - a2)))] []) fun z1=>
 TN (call 18 [(V.lst 5 true (getL z1.1)),(V.int .i64 (TK .i64 (a5 - a4)))] []) fun z2=>
 if(a1==(2:Int))=true then
 chk (decide (0≤(0:Int))) (chk (decide ((0:Int)<((length a6:Nat):Int))) (TN (call 20 [(V.lst 5 true (getL z2.1)),(V.agg [(V.int .i64 (getI (headD (V.cells (getD a6 (TO (0:Int)) V.bot)) V.bot))),(V.int .i64 (getI (headD (tail (V.cells (getD a6 (TO (0:Int)) V.bot))) V.bot))),(V.int .i64 (getI (headD (tail (tail (V.cells (getD a6 (TO (0:Int)) V.bot)))) V.bot))),(V.int .i64 (getI (headD (tail (tail (tail (V.cells (getD a6 (TO (0:Int)) V.bot))))) V.bot))),(V.int .i64 (getI (headD (tail (tail (tail (tail (V.cells (getD a6 (TO (0:Int)) V.bot)))))) V.bot))),(V.lst 31 false (getL (headD (tail (tail (tail (tail (tail (V.cells (getD a6 (TO (0:Int)) V.bot))))))) V.bot))),(V.lst 27 false (getL (headD (tail (tail (tail (tail (tail (tail (V.cells (getD a6 (TO (0:Int)) V.bot)))))))) V.bot))),(V.int .i64 (getI (headD (tail (tail (tail (tail (tail (tail (tail (V.cells (getD a6 (TO (0:Int)) V.bot))))))))) V.bot))),(V.int .i64 (getI (headD (tail (tail (tail (tail (tail (tail (tail (tail (V.cells (getD a6 (TO (0:Int)) V.bot)))))))))) V.bot)))])] []) fun z3=>
 some ((V.lst 5 true (getL z3.1)),[])))
 else
 if(a1==(1:Int))=true then
 TN (call 18 [(V.lst 5 true (getL z2.1)),(V.int .i64 ((length a6:Nat):Int))] []) fun z3=>
 (ag0 ((getL z3.1)) (a4) (a6) (((length a6:Nat):Int)) ((0:Int)) (a1) (a2) (a3) (a4) (a5) (a6) (a7) (a8) (a9))
 else
 some ((V.lst 5 true (getL z2.1)),[])
def A20 (a0:List V) (a1:Int) (a2:Int) (a3:Int) (a4:Int) (a5:Int) (a6:List V) (a7:List V) (a8:Int) (a9:Int):List V:=[V.lst 5 true a0,V.agg [V.int TM a1,V.int TM a2,V.int TM a3,V.int TM a4,V.int TM a5,V.lst 31 false a6,V.lst 27 false a7,V.int TM a8,V.int TM a9]]
def Dk (l0:List V) (i1:Int) (l2:List V) (i3:Int) (i4:Int) (i5:Int) (i6:Int) (i7:Int) (i8:Int) (i9:Int) (l10:List V) (l11:List V) (i12:Int) (i13:Int):St:=⟨[(V.lst 5 true l0),V.bot,V.bot,(V.ref 0 0),V.bot,(V.int TM i1),V.bot,V.bot,V.bot,V.bot,V.bot,V.bot,V.bot,V.bot,V.bot,V.bot,V.bot,V.bot,V.bot,V.bot,V.bot,V.bot,V.bot,V.bot,V.bot,V.bot,V.bot,V.bot,V.bot,V.bot,V.bot,V.bot,V.bot,V.bot,V.bot,V.bot,V.bot,V.bot,V.bot,V.bot,V.bot,V.bot,V.bot,V.bot,V.bot,V.bot,V.bot,V.bot,V.bot,V.bot,V.bot,V.bot,(V.lst 31 false l2),(V.int TM i3),(V.int TM i4)]++TZ 43 V.bot,[(Ob.cells [(V.int TM i5),(V.int TM i6),(V.int TM i7),(V.int TM i8),(V.int TM i9),(V.lst 31 false l10),(V.lst 27 false l11),(V.int TM i12),(V.int TM i13)])]⟩
theorem Sj (l0:List V) (i1:Int) (l2:List V) (i3:Int) (i4:Int) (i5:Int) (i6:Int) (i7:Int) (i8:Int) (i9:Int) (l10:List V) (l11:List V) (i12:Int) (i13:Int):
 RM 20 Tryz.f20 [] call icall again (aJ Tryz.f20 0) (Dk l0 i1 l2 i3 i4 i5 i6 i7 i8 i9 l10 l11 i12 i13)=GB call (fun l0 i1 l2 i3 i4 i5 i6 i7 i8 i9 l10 l11 i12 i13=>again (aJ Tryz.f20 0) (Dk l0 i1 l2 i3 i4 i5 i6 i7 i8 i9 l10 l11 i12 i13)) l0 i1 l2 i3 i4 i5 i6 i7 i8 i9 l10 l11 i12 i13:=by kernel_rfl
theorem E20 (a0:List V) (a1:Int) (a2:Int) (a3:Int) (a4:Int) (a5:Int) (a6:List V) (a7:List V) (a8:Int) (a9:Int):GO 20 Tryz.f20 (A20 a0 a1 a2 a3 a4 a5 a6 a7 a8 a9) [] call icall again=T20 call (fun l0 i1 l2 i3 i4 i5 i6 i7 i8 i9 l10 l11 i12 i13=>again (aJ Tryz.f20 0) (Dk l0 i1 l2 i3 i4 i5 i6 i7 i8 i9 l10 l11 i12 i13)) a0 a1 a2 a3 a4 a5 a6 a7 a8 a9:=by kernel_rfl
def L20 (call:FuncId→Fun):Nat→(List V→Int→List V→Int→Int→Int→Int→Int→Int→Int→List V→List V→Int→Int→Option (V×List Ob))
 |0=>fun _ _ _ _ _ _ _ _ _ _ _ _ _ _=>none
 |n+1=>GB call (L20 call n)
theorem R20 (call:FuncId→Fun) (icall:aN (V×List Ob)):∀n,(∀(l0:List V) (i1:Int) (l2:List V) (i3:Int) (i4:Int) (i5:Int) (i6:Int) (i7:Int) (i8:Int) (i9:Int) (l10:List V) (l11:List V) (i12:Int) (i13:Int),RN 20 Tryz.f20 [] call icall n (aJ Tryz.f20 0) (Dk l0 i1 l2 i3 i4 i5 i6 i7 i8 i9 l10 l11 i12 i13)=(L20 call n) l0 i1 l2 i3 i4 i5 i6 i7 i8 i9 l10 l11 i12 i13)
 |0=>fun l0 i1 l2 i3 i4 i5 i6 i7 i8 i9 l10 l11 i12 i13=>rfl
 |n+1=>by
  have ih:=R20 call icall n
  exact fun l0 i1 l2 i3 i4 i5 i6 i7 i8 i9 l10 l11 i12 i13=>(Sj call icall (RN 20 Tryz.f20 [] call icall n) l0 i1 l2 i3 i4 i5 i6 i7 i8 i9 l10 l11 i12 i13).trans (by rw[show(fun l0 i1 l2 i3 i4 i5 i6 i7 i8 i9 l10 l11 i12 i13=>RN 20 Tryz.f20 [] call icall n (aJ Tryz.f20 0) (Dk l0 i1 l2 i3 i4 i5 i6 i7 i8 i9 l10 l11 i12 i13))=(L20 call n)from(funext fun l0=>funext fun i1=>funext fun l2=>funext fun i3=>funext fun i4=>funext fun i5=>funext fun i6=>funext fun i7=>funext fun i8=>funext fun i9=>funext fun l10=>funext fun l11=>funext fun i12=>funext fun i13=>ih l0 i1 l2 i3 i4 i5 i6 i7 i8 i9 l10 l11 i12 i13)];rfl)
theorem C20 (k:Nat) (a0:List V) (a1:Int) (a2:Int) (a3:Int) (a4:Int) (a5:Int) (a6:List V) (a7:List V) (a8:Int) (a9:Int):aA cfg (k+1) 20 (A20 a0 a1 a2 a3 a4 a5 a6 a7 a8 a9) []=T20 (aA cfg k) (L20 (aA cfg k) k) a0 a1 a2 a3 a4 a5 a6 a7 a8 a9:=by
 have ih:=R20 (aA cfg k) (aF cfg (aA cfg k) 20) k
 refine(show aA cfg (k+1) 20 (A20 a0 a1 a2 a3 a4 a5 a6 a7 a8 a9) []=GO 20 Tryz.f20 (A20 a0 a1 a2 a3 a4 a5 a6 a7 a8 a9) [] (aA cfg k) (aF cfg (aA cfg k) 20) (RN 20 Tryz.f20 [] (aA cfg k) (aF cfg (aA cfg k) 20) k)by kernel_rfl).trans ((E20 _ _ _ a0 a1 a2 a3 a4 a5 a6 a7 a8 a9).trans ?_)
 rw[show(fun l0 i1 l2 i3 i4 i5 i6 i7 i8 i9 l10 l11 i12 i13=>RN 20 Tryz.f20 [] (aA cfg k) (aF cfg (aA cfg k) 20) k (aJ Tryz.f20 0) (Dk l0 i1 l2 i3 i4 i5 i6 i7 i8 i9 l10 l11 i12 i13))=(L20 (aA cfg k) k)from(funext fun l0=>funext fun i1=>funext fun l2=>funext fun i3=>funext fun i4=>funext fun i5=>funext fun i6=>funext fun i7=>funext fun i8=>funext fun i9=>funext fun l10=>funext fun l11=>funext fun i12=>funext fun i13=>ih l0 i1 l2 i3 i4 i5 i6 i7 i8 i9 l10 l11 i12 i13)]
theorem M20 (a0:List V) (a1:Int) (a2:Int) (a3:Int) (a4:Int) (a5:Int) (a6:List V) (a7:List V) (a8:Int) (a9:Int) {r:V×List Ob} (h:Evt (fun k n=>T20 (aA cfg k) (L20 (aA cfg k) n) a0 a1 a2 a3 a4 a5 a6 a7 a8 a9) r):Ret 20 [V.lst 5 true a0,V.agg [V.int TM a1,V.int TM a2,V.int TM a3,V.int TM a4,V.int TM a5,V.lst 31 false a6,V.lst 27 false a7,V.int TM a8,V.int TM a9]] [] r:=aR (g:=fun k n=>T20 (aA cfg k) (L20 (aA cfg k) n) a0 a1 a2 a3 a4 a5 a6 a7 a8 a9) (fun k=>C20 k a0 a1 a2 a3 a4 a5 a6 a7 a8 a9) h
theorem OQ (l0:List V) (i1:Int) (l2:List V) (i3:Int) (i4:Int) (i5:Int) (i6:Int) (i7:Int) (i8:Int) (i9:Int) (l10:List V) (l11:List V) (i12:Int) (i13:Int) {r:V×List Ob} (h:Evt (fun k n=>GB (aA cfg k) (L20 (aA cfg k) n) l0 i1 l2 i3 i4 i5 i6 i7 i8 i9 l10 l11 i12 i13) r):Evt (fun k n=>(L20 (aA cfg k) n) l0 i1 l2 i3 i4 i5 i6 i7 i8 i9 l10 l11 i12 i13) r:=aX (fun k n=>rfl) h
def T8 (call:FuncId→Fun) (a0:List V) (a1:Int) (a2:Int) (a3:Int) (a4:Int) (a5:Int) (a6:List V) (a7:List V) (a8:Int) (a9:Int):Option (V×List Ob):=
 TN (call 16 [(V.agg [(V.int .i64 a1),(V.int .i64 a2),(V.int .i64 a3),(V.int .i64 a4),(V.int .i64 a5),(V.lst 31 false a6),(V.lst 27 false a7),(V.int .i64 a8),(V.int .i64 a9)]),(V.int .i64 ((length a0:Nat):Int))] []) fun z0=>
 if((getI z0.1) != (0:Int))=true then
 some ((V.tup [(V.lst 5 false []),(V.int .i64 (getI z0.1))]),[])
 else
 TN (call 18 [(V.lst 5 true [(V.int .u8 76),(V.int .u8 66),(V.int .u8 1)]),(V.int .i64 ((length a0:Nat):Int))] []) fun z1=>
 TN (call 19 [(V.lst 5 false a0)] []) fun z2=>
 TN (call 17 [(V.lst 5 true (getL z1.1)),(V.int Uk (getI z2.1))] []) fun z3=>
 TN (call 20 [(V.lst 5 true (getL z3.1)),(V.agg [(V.int .i64 a1),(V.int .i64 a2),(V.int .i64 a3),(V.int .i64 a4),(V.int .i64 a5),(V.lst 31 false a6),(V.lst 27 false a7),(V.int .i64 a8),(V.int .i64 a9)])] []) fun z4=>
 TN (call 19 [(V.lst 5 false (getL z4.1))] []) fun z5=>
 TN (call 17 [(V.lst 5 true (getL z4.1)),(V.int Uk (getI z5.1))] []) fun z6=>
 some ((V.tup [(V.lst 5 false (getL z6.1)),(V.int .i64 0)]),[])
def A8 (a0:List V) (a1:Int) (a2:Int) (a3:Int) (a4:Int) (a5:Int) (a6:List V) (a7:List V) (a8:Int) (a9:Int):List V:=[V.lst 5 false a0,V.agg [V.int TM a1,V.int TM a2,V.int TM a3,V.int TM a4,V.int TM a5,V.lst 31 false a6,V.lst 27 false a7,V.int TM a8,V.int TM a9]]
theorem E8 (a0:List V) (a1:Int) (a2:Int) (a3:Int) (a4:Int) (a5:Int) (a6:List V) (a7:List V) (a8:Int) (a9:Int):GO 8 Tryz.f8 (A8 a0 a1 a2 a3 a4 a5 a6 a7 a8 a9) [] call icall again=T8 call a0 a1 a2 a3 a4 a5 a6 a7 a8 a9:=by kernel_rfl
theorem C8 (k:Nat) (a0:List V) (a1:Int) (a2:Int) (a3:Int) (a4:Int) (a5:Int) (a6:List V) (a7:List V) (a8:Int) (a9:Int):aA cfg (k+1) 8 (A8 a0 a1 a2 a3 a4 a5 a6 a7 a8 a9) []=T8 (aA cfg k) a0 a1 a2 a3 a4 a5 a6 a7 a8 a9:=
 (show aA cfg (k+1) 8 (A8 a0 a1 a2 a3 a4 a5 a6 a7 a8 a9) []=GO 8 Tryz.f8 (A8 a0 a1 a2 a3 a4 a5 a6 a7 a8 a9) [] (aA cfg k) (aF cfg (aA cfg k) 20) (RN 8 Tryz.f8 [] (aA cfg k) (aF cfg (aA cfg k) 20) k)by kernel_rfl).trans (E8 _ _ _ a0 a1 a2 a3 a4 a5 a6 a7 a8 a9)
theorem M8 (a0:List V) (a1:Int) (a2:Int) (a3:Int) (a4:Int) (a5:Int) (a6:List V) (a7:List V) (a8:Int) (a9:Int) {r:V×List Ob} (h:Evt (fun k n=>T8 (aA cfg k) a0 a1 a2 a3 a4 a5 a6 a7 a8 a9) r):Ret 8 [V.lst 5 false a0,V.agg [V.int TM a1,V.int TM a2,V.int TM a3,V.int TM a4,V.int TM a5,V.lst 31 false a6,V.lst 27 false a7,V.int TM a8,V.int TM a9]] [] r:=aR (g:=fun k n=>T8 (aA cfg k) a0 a1 a2 a3 a4 a5 a6 a7 a8 a9) (fun k=>C8 k a0 a1 a2 a3 a4 a5 a6 a7 a8 a9) h
def T23 (call:FuncId→Fun) (a0:List V) (a1:Int) (a2:Bool) (a3:Nat) (a4:V) (a5:Int):Option (V×List Ob):=
 if a2=true then
 some ((V.tup []),[(Ob.cells [(V.lst 5 false a0),(V.int .i64 a1),(V.ifo false 110 (V.cpt [(V.int .i64 a1),(V.ifc 32 (V.int .i64 a5))]))])])
 else
 some ((V.tup []),[(Ob.cells [(V.lst 5 false a0),(V.int .i64 a1),(V.ifo a2 a3 a4)])])
def O23 (a0:List V) (a1:Int) (a2:Bool) (a3:Nat) (a4:V):List Ob:=[Ob.cells [V.lst 5 false a0,V.int TM a1,V.ifo a2 a3 a4]]
def A23 (a5:Int):List V:=[V.ref 0 0,V.int TM a5]
theorem E23 (a0:List V) (a1:Int) (a2:Bool) (a3:Nat) (a4:V) (a5:Int):GO 23 Tryz.f23 (A23 a5) (O23 a0 a1 a2 a3 a4) call icall again=T23 call a0 a1 a2 a3 a4 a5:=by kernel_rfl
theorem C23 (k:Nat) (a0:List V) (a1:Int) (a2:Bool) (a3:Nat) (a4:V) (a5:Int):aA cfg (k+1) 23 (A23 a5) (O23 a0 a1 a2 a3 a4)=T23 (aA cfg k) a0 a1 a2 a3 a4 a5:=
 (show aA cfg (k+1) 23 (A23 a5) (O23 a0 a1 a2 a3 a4)=GO 23 Tryz.f23 (A23 a5) (O23 a0 a1 a2 a3 a4) (aA cfg k) (aF cfg (aA cfg k) 20) (RN 23 Tryz.f23 (O23 a0 a1 a2 a3 a4) (aA cfg k) (aF cfg (aA cfg k) 20) k)by kernel_rfl).trans (E23 _ _ _ a0 a1 a2 a3 a4 a5)
theorem M23 (a0:List V) (a1:Int) (a2:Bool) (a3:Nat) (a4:V) (a5:Int) {r:V×List Ob} (h:Evt (fun k n=>T23 (aA cfg k) a0 a1 a2 a3 a4 a5) r):Ret 23 [V.ref 0 0,V.int TM a5] [Ob.cells [V.lst 5 false a0,V.int TM a1,V.ifo a2 a3 a4]] r:=aR (g:=fun k n=>T23 (aA cfg k) a0 a1 a2 a3 a4 a5) (fun k=>C23 k a0 a1 a2 a3 a4 a5) h
def T46 (call:FuncId→Fun) (a0:List V) (a1:Int) (a2:Bool) (a3:Nat) (a4:V) (a5:Int):Option (V×List Ob):=
 TN (if a2=true then
 some (decide (a5>(TK .i64 (((length a0:Nat):Int) - a1))))
 else
 some false) fun y0=>
 if y0=true then
 TN (call 23 [(V.ref 0 0),(V.int .i64 10)] [(Ob.cells [(V.lst 5 false a0),(V.int .i64 a1),(V.ifo a2 a3 a4)])]) fun z1=>
 if(!(V.ifN (headD (tail (tail (Ob.getC (headD z1.2 Ob.dead)))) V.bot)))=true then
 chk (a5==a5) (chk (decide (0≤a5)) (chk (decide (a5* ((2:Nat):Int)≤70368744177664)) (some ((V.lst 5 false (TZ (TO a5) (V.int .u8 0))),[(Ob.cells [(V.lst 5 false (getL (headD (Ob.getC (headD z1.2 Ob.dead)) V.bot))),(V.int .i64 (getI (headD (tail (Ob.getC (headD z1.2 Ob.dead))) V.bot))),(V.ifo (V.ifN (headD (tail (tail (Ob.getC (headD z1.2 Ob.dead)))) V.bot)) (V.ifT (headD (tail (tail (Ob.getC (headD z1.2 Ob.dead)))) V.bot)) (V.ifV (headD (tail (tail (Ob.getC (headD z1.2 Ob.dead)))) V.bot)))])]))))
 else
 chk (decide (0≤(TK .i64 ((getI (headD (tail (Ob.getC (headD z1.2 Ob.dead))) V.bot))+a5)))) (chk (decide ((TK .i64 ((getI (headD (tail (Ob.getC (headD z1.2 Ob.dead))) V.bot))+a5))≤((length (getL (headD (Ob.getC (headD z1.2 Ob.dead)) V.bot)):Nat):Int))) (chk (decide (0≤(TK .i64 ((TK .i64 ((getI (headD (tail (Ob.getC (headD z1.2 Ob.dead))) V.bot))+a5)) - a5)))) (chk (decide ((TK .i64 ((TK .i64 ((getI (headD (tail (Ob.getC (headD z1.2 Ob.dead))) V.bot))+a5)) - a5))≤(TK .i64 ((getI (headD (tail (Ob.getC (headD z1.2 Ob.dead))) V.bot))+a5)))) (some ((V.lst 5 false (drop (TO (TK .i64 ((TK .i64 ((getI (headD (tail (Ob.getC (headD z1.2 Ob.dead))) V.bot))+a5)) - a5))) (take (TO (TK .i64 ((getI (headD (tail (Ob.getC (headD z1.2 Ob.dead))) V.bot))+a5))) (getL (headD (Ob.getC (headD z1.2 Ob.dead)) V.bot))))),[(Ob.cells [(V.lst 5 false (getL (headD (Ob.getC (headD z1.2 Ob.dead)) V.bot))),(V.int .i64 (TK .i64 ((getI (headD (tail (Ob.getC (headD z1.2 Ob.dead))) V.bot))+a5))),(V.ifo (V.ifN (headD (tail (tail (Ob.getC (headD z1.2 Ob.dead)))) V.bot)) (V.ifT (headD (tail (tail (Ob.getC (headD z1.2 Ob.dead)))) V.bot)) (V.ifV (headD (tail (tail (Ob.getC (headD z1.2 Ob.dead)))) V.bot)))])])))))
 else
 if(!a2)=true then
 chk (a5==a5) (chk (decide (0≤a5)) (chk (decide (a5* ((2:Nat):Int)≤70368744177664)) (some ((V.lst 5 false (TZ (TO a5) (V.int .u8 0))),[(Ob.cells [(V.lst 5 false a0),(V.int .i64 a1),(V.ifo a2 a3 a4)])]))))
 else
 chk (decide (0≤(TK .i64 (a1+a5)))) (chk (decide ((TK .i64 (a1+a5))≤((length a0:Nat):Int))) (chk (decide (0≤(TK .i64 ((TK .i64 (a1+a5)) - a5)))) (chk (decide ((TK .i64 ((TK .i64 (a1+a5)) - a5))≤(TK .i64 (a1+a5)))) (some ((V.lst 5 false (drop (TO (TK .i64 ((TK .i64 (a1+a5)) - a5))) (take (TO (TK .i64 (a1+a5))) a0))),[(Ob.cells [(V.lst 5 false a0),(V.int .i64 (TK .i64 (a1+a5))),(V.ifo a2 a3 a4)])])))))
def O46 (a0:List V) (a1:Int) (a2:Bool) (a3:Nat) (a4:V):List Ob:=[Ob.cells [V.lst 5 false a0,V.int TM a1,V.ifo a2 a3 a4]]
def A46 (a5:Int):List V:=[V.ref 0 0,V.int TM a5]
theorem E46 (a0:List V) (a1:Int) (a2:Bool) (a3:Nat) (a4:V) (a5:Int):GO 46 Tryz.f46 (A46 a5) (O46 a0 a1 a2 a3 a4) call icall again=T46 call a0 a1 a2 a3 a4 a5:=by kernel_rfl
theorem C46 (k:Nat) (a0:List V) (a1:Int) (a2:Bool) (a3:Nat) (a4:V) (a5:Int):aA cfg (k+1) 46 (A46 a5) (O46 a0 a1 a2 a3 a4)=T46 (aA cfg k) a0 a1 a2 a3 a4 a5:=
 (show aA cfg (k+1) 46 (A46 a5) (O46 a0 a1 a2 a3 a4)=GO 46 Tryz.f46 (A46 a5) (O46 a0 a1 a2 a3 a4) (aA cfg k) (aF cfg (aA cfg k) 20) (RN 46 Tryz.f46 (O46 a0 a1 a2 a3 a4) (aA cfg k) (aF cfg (aA cfg k) 20) k)by kernel_rfl).trans (E46 _ _ _ a0 a1 a2 a3 a4 a5)
theorem M46 (a0:List V) (a1:Int) (a2:Bool) (a3:Nat) (a4:V) (a5:Int) {r:V×List Ob} (h:Evt (fun k n=>T46 (aA cfg k) a0 a1 a2 a3 a4 a5) r):Ret 46 [V.ref 0 0,V.int TM a5] [Ob.cells [V.lst 5 false a0,V.int TM a1,V.ifo a2 a3 a4]] r:=aR (g:=fun k n=>T46 (aA cfg k) a0 a1 a2 a3 a4 a5) (fun k=>C46 k a0 a1 a2 a3 a4 a5) h
def yS (call:FuncId→Fun) (ag0:Int→Int→List V→Int→Bool→Nat→V→Option (V×List Ob)) (i0:Int) (i1:Int) (l2:List V) (i3:Int) (b4:Bool) (t5:Nat) (v6:V):Option (V×List Ob):=
 TN (call 46 [(V.ref 0 0),(V.int .i64 1)] [(Ob.cells [(V.lst 5 false l2),(V.int .i64 i3),(V.ifo b4 t5 v6)])]) fun z0=>
 chk (decide (0≤(0:Int))) (chk (decide ((0:Int)<((length (getL z0.1):Nat):Int))) (TN (if(decide (i1>(0:Int)))=true then
 if((getI (getD (getL z0.1) (TO (0:Int)) V.bot))==(0:Int))=false then
 some (decide ((TK .i64 (i1* (7:Int)))>(40:Int)))
 else
 some true
 else
 some (decide ((TK .i64 (i1* (7:Int)))>(40:Int)))) fun y1=>
 if y1=true then
 TN (call 23 [(V.ref 0 0),(V.int .i64 11)] [(Ob.cells [(V.lst 5 false (getL (headD (Ob.getC (headD z0.2 Ob.dead)) V.bot))),(V.int .i64 (getI (headD (tail (Ob.getC (headD z0.2 Ob.dead))) V.bot))),(V.ifo (V.ifN (headD (tail (tail (Ob.getC (headD z0.2 Ob.dead)))) V.bot)) (V.ifT (headD (tail (tail (Ob.getC (headD z0.2 Ob.dead)))) V.bot)) (V.ifV (headD (tail (tail (Ob.getC (headD z0.2 Ob.dead)))) V.bot)))])]) fun z2=>
 if(!(V.ifN (headD (tail (tail (Ob.getC (headD z2.2 Ob.dead)))) V.bot)))=true then
 some ((V.int .i64 0),[(Ob.cells [(V.lst 5 false (getL (headD (Ob.getC (headD z2.2 Ob.dead)) V.bot))),(V.int .i64 (getI (headD (tail (Ob.getC (headD z2.2 Ob.dead))) V.bot))),(V.ifo (V.ifN (headD (tail (tail (Ob.getC (headD z2.2 Ob.dead)))) V.bot)) (V.ifT (headD (tail (tail (Ob.getC (headD z2.2 Ob.dead)))) V.bot)) (V.ifV (headD (tail (tail (Ob.getC (headD z2.2 Ob.dead)))) V.bot)))])])
 else
 chk (decide (0≤(TK .i64 (i1* (7:Int))))) (if(decide ((getI (getD (getL z0.1) (TO (0:Int)) V.bot))<(128:Int)))=true then
 if(decide ((bits BinOp.or .i64 i0 (TK .i64 ((TK .i64 (bits BinOp.and .u8 (getI (getD (getL z0.1) (TO (0:Int)) V.bot)) (127:Int)))*2 ^ min (TO (TK .i64 (i1* (7:Int)))) (Uz .i64))))≥(1099511627776:Int)))=true then
 TN (call 23 [(V.ref 0 0),(V.int .i64 11)] [(Ob.cells [(V.lst 5 false (getL (headD (Ob.getC (headD z2.2 Ob.dead)) V.bot))),(V.int .i64 (getI (headD (tail (Ob.getC (headD z2.2 Ob.dead))) V.bot))),(V.ifo (V.ifN (headD (tail (tail (Ob.getC (headD z2.2 Ob.dead)))) V.bot)) (V.ifT (headD (tail (tail (Ob.getC (headD z2.2 Ob.dead)))) V.bot)) (V.ifV (headD (tail (tail (Ob.getC (headD z2.2 Ob.dead)))) V.bot)))])]) fun z3=>
 some ((V.int .i64 0),[(Ob.cells [(V.lst 5 false (getL (headD (Ob.getC (headD z3.2 Ob.dead)) V.bot))),(V.int .i64 (getI (headD (tail (Ob.getC (headD z3.2 Ob.dead))) V.bot))),(V.ifo (V.ifN (headD (tail (tail (Ob.getC (headD z3.2 Ob.dead)))) V.bot)) (V.ifT (headD (tail (tail (Ob.getC (headD z3.2 Ob.dead)))) V.bot)) (V.ifV (headD (tail (tail (Ob.getC (headD z3.2 Ob.dead)))) V.bot)))])])
 else
 some ((V.int .i64 (bits BinOp.or .i64 i0 (TK .i64 ((TK .i64 (bits BinOp.and .u8 (getI (getD (getL z0.1) (TO (0:Int)) V.bot)) (127:Int)))*2 ^ min (TO (TK .i64 (i1* (7:Int)))) (Uz .i64))))),[(Ob.cells [(V.lst 5 false (getL (headD (Ob.getC (headD z2.2 Ob.dead)) V.bot))),(V.int .i64 (getI (headD (tail (Ob.getC (headD z2.2 Ob.dead))) V.bot))),(V.ifo (V.ifN (headD (tail (tail (Ob.getC (headD z2.2 Ob.dead)))) V.bot)) (V.ifT (headD (tail (tail (Ob.getC (headD z2.2 Ob.dead)))) V.bot)) (V.ifV (headD (tail (tail (Ob.getC (headD z2.2 Ob.dead)))) V.bot)))])])
 else
 (ag0 ((bits BinOp.or .i64 i0 (TK .i64 ((TK .i64 (bits BinOp.and .u8 (getI (getD (getL z0.1) (TO (0:Int)) V.bot)) (127:Int)))*2 ^ min (TO (TK .i64 (i1* (7:Int)))) (Uz .i64))))) ((TK .i64 (i1+(1:Int)))) ((getL (headD (Ob.getC (headD z2.2 Ob.dead)) V.bot))) ((getI (headD (tail (Ob.getC (headD z2.2 Ob.dead))) V.bot))) ((V.ifN (headD (tail (tail (Ob.getC (headD z2.2 Ob.dead)))) V.bot))) ((V.ifT (headD (tail (tail (Ob.getC (headD z2.2 Ob.dead)))) V.bot))) ((V.ifV (headD (tail (tail (Ob.getC (headD z2.2 Ob.dead)))) V.bot)))))
 else
 if(!(V.ifN (headD (tail (tail (Ob.getC (headD z0.2 Ob.dead)))) V.bot)))=true then
 some ((V.int .i64 0),[(Ob.cells [(V.lst 5 false (getL (headD (Ob.getC (headD z0.2 Ob.dead)) V.bot))),(V.int .i64 (getI (headD (tail (Ob.getC (headD z0.2 Ob.dead))) V.bot))),(V.ifo (V.ifN (headD (tail (tail (Ob.getC (headD z0.2 Ob.dead)))) V.bot)) (V.ifT (headD (tail (tail (Ob.getC (headD z0.2 Ob.dead)))) V.bot)) (V.ifV (headD (tail (tail (Ob.getC (headD z0.2 Ob.dead)))) V.bot)))])])
 else
 chk (decide (0≤(TK .i64 (i1* (7:Int))))) (if(decide ((getI (getD (getL z0.1) (TO (0:Int)) V.bot))<(128:Int)))=true then
 if(decide ((bits BinOp.or .i64 i0 (TK .i64 ((TK .i64 (bits BinOp.and .u8 (getI (getD (getL z0.1) (TO (0:Int)) V.bot)) (127:Int)))*2 ^ min (TO (TK .i64 (i1* (7:Int)))) (Uz .i64))))≥(1099511627776:Int)))=true then
 TN (call 23 [(V.ref 0 0),(V.int .i64 11)] [(Ob.cells [(V.lst 5 false (getL (headD (Ob.getC (headD z0.2 Ob.dead)) V.bot))),(V.int .i64 (getI (headD (tail (Ob.getC (headD z0.2 Ob.dead))) V.bot))),(V.ifo (V.ifN (headD (tail (tail (Ob.getC (headD z0.2 Ob.dead)))) V.bot)) (V.ifT (headD (tail (tail (Ob.getC (headD z0.2 Ob.dead)))) V.bot)) (V.ifV (headD (tail (tail (Ob.getC (headD z0.2 Ob.dead)))) V.bot)))])]) fun z2=>
 some ((V.int .i64 0),[(Ob.cells [(V.lst 5 false (getL (headD (Ob.getC (headD z2.2 Ob.dead)) V.bot))),(V.int .i64 (getI (headD (tail (Ob.getC (headD z2.2 Ob.dead))) V.bot))),(V.ifo (V.ifN (headD (tail (tail (Ob.getC (headD z2.2 Ob.dead)))) V.bot)) (V.ifT (headD (tail (tail (Ob.getC (headD z2.2 Ob.dead)))) V.bot)) (V.ifV (headD (tail (tail (Ob.getC (headD z2.2 Ob.dead)))) V.bot)))])])
 else
 some ((V.int .i64 (bits BinOp.or .i64 i0 (TK .i64 ((TK .i64 (bits BinOp.and .u8 (getI (getD (getL z0.1) (TO (0:Int)) V.bot)) (127:Int)))*2 ^ min (TO (TK .i64 (i1* (7:Int)))) (Uz .i64))))),[(Ob.cells [(V.lst 5 false (getL (headD (Ob.getC (headD z0.2 Ob.dead)) V.bot))),(V.int .i64 (getI (headD (tail (Ob.getC (headD z0.2 Ob.dead))) V.bot))),(V.ifo (V.ifN (headD (tail (tail (Ob.getC (headD z0.2 Ob.dead)))) V.bot)) (V.ifT (headD (tail (tail (Ob.getC (headD z0.2 Ob.dead)))) V.bot)) (V.ifV (headD (tail (tail (Ob.getC (headD z0.2 Ob.dead)))) V.bot)))])])
 else
 (ag0 ((bits BinOp.or .i64 i0 (TK .i64 ((TK .i64 (bits BinOp.and .u8 (getI (getD (getL z0.1) (TO (0:Int)) V.bot)) (127:Int)))*2 ^ min (TO (TK .i64 (i1* (7:Int)))) (Uz .i64))))) ((TK .i64 (i1+(1:Int)))) ((getL (headD (Ob.getC (headD z0.2 Ob.dead)) V.bot))) ((getI (headD (tail (Ob.getC (headD z0.2 Ob.dead))) V.bot))) ((V.ifN (headD (tail (tail (Ob.getC (headD z0.2 Ob.dead)))) V.bot))) ((V.ifT (headD (tail (tail (Ob.getC (headD z0.2 Ob.dead)))) V.bot))) ((V.ifV (headD (tail (tail (Ob.getC (headD z0.2 Ob.dead)))) V.bot)))))))
def T22 (call:FuncId→Fun) (ag0:Int→Int→List V→Int→Bool→Nat→V→Option (V×List Ob)) (a0:List V) (a1:Int) (a2:Bool) (a3:Nat) (a4:V):Option (V×List Ob):=
 (ag0 ((0:Int)) ((0:Int)) (a0) (a1) (a2) (a3) (a4))
def O22 (a0:List V) (a1:Int) (a2:Bool) (a3:Nat) (a4:V):List Ob:=[Ob.cells [V.lst 5 false a0,V.int TM a1,V.ifo a2 a3 a4]]
def A22:List V:=[V.ref 0 0]
def Dl (i0:Int) (i1:Int) (l2:List V) (i3:Int) (b4:Bool) (t5:Nat) (v6:V):St:=⟨[(V.ref 0 0),V.bot,V.bot,(V.int TM i0),(V.int TM i1)]++TZ 40 V.bot,[(Ob.cells [(V.lst 5 false l2),(V.int TM i3),(V.ifo b4 t5 v6)])]⟩
theorem Sk (a0:List V) (a1:Int) (a2:Bool) (a3:Nat) (a4:V) (i0:Int) (i1:Int) (l2:List V) (i3:Int) (b4:Bool) (t5:Nat) (v6:V):
 RM 22 Tryz.f22 (O22 a0 a1 a2 a3 a4) call icall again (aJ Tryz.f22 0) (Dl i0 i1 l2 i3 b4 t5 v6)=yS call (fun i0 i1 l2 i3 b4 t5 v6=>again (aJ Tryz.f22 0) (Dl i0 i1 l2 i3 b4 t5 v6)) i0 i1 l2 i3 b4 t5 v6:=by kernel_rfl
theorem E22 (a0:List V) (a1:Int) (a2:Bool) (a3:Nat) (a4:V):GO 22 Tryz.f22 A22 (O22 a0 a1 a2 a3 a4) call icall again=T22 call (fun i0 i1 l2 i3 b4 t5 v6=>again (aJ Tryz.f22 0) (Dl i0 i1 l2 i3 b4 t5 v6)) a0 a1 a2 a3 a4:=by kernel_rfl
def L22 (call:FuncId→Fun):Nat→(Int→Int→List V→Int→Bool→Nat→V→Option (V×List Ob))
 |0=>fun _ _ _ _ _ _ _=>none
 |n+1=>yS call (L22 call n)
theorem R22 (call:FuncId→Fun) (icall:aN (V×List Ob)) (a0:List V) (a1:Int) (a2:Bool) (a3:Nat) (a4:V):∀n,(∀(i0:Int) (i1:Int) (l2:List V) (i3:Int) (b4:Bool) (t5:Nat) (v6:V),RN 22 Tryz.f22 (O22 a0 a1 a2 a3 a4) call icall n (aJ Tryz.f22 0) (Dl i0 i1 l2 i3 b4 t5 v6)=(L22 call n) i0 i1 l2 i3 b4 t5 v6)
 |0=>fun i0 i1 l2 i3 b4 t5 v6=>rfl
 |n+1=>by
  have ih:=R22 call icall a0 a1 a2 a3 a4 n
  exact fun i0 i1 l2 i3 b4 t5 v6=>(Sk call icall (RN 22 Tryz.f22 (O22 a0 a1 a2 a3 a4) call icall n) a0 a1 a2 a3 a4 i0 i1 l2 i3 b4 t5 v6).trans (by rw[show(fun i0 i1 l2 i3 b4 t5 v6=>RN 22 Tryz.f22 (O22 a0 a1 a2 a3 a4) call icall n (aJ Tryz.f22 0) (Dl i0 i1 l2 i3 b4 t5 v6))=(L22 call n)from(funext fun i0=>funext fun i1=>funext fun l2=>funext fun i3=>funext fun b4=>funext fun t5=>funext fun v6=>ih i0 i1 l2 i3 b4 t5 v6)];rfl)
theorem C22 (k:Nat) (a0:List V) (a1:Int) (a2:Bool) (a3:Nat) (a4:V):aA cfg (k+1) 22 A22 (O22 a0 a1 a2 a3 a4)=T22 (aA cfg k) (L22 (aA cfg k) k) a0 a1 a2 a3 a4:=by
 have ih:=R22 (aA cfg k) (aF cfg (aA cfg k) 20) a0 a1 a2 a3 a4 k
 refine(show aA cfg (k+1) 22 A22 (O22 a0 a1 a2 a3 a4)=GO 22 Tryz.f22 A22 (O22 a0 a1 a2 a3 a4) (aA cfg k) (aF cfg (aA cfg k) 20) (RN 22 Tryz.f22 (O22 a0 a1 a2 a3 a4) (aA cfg k) (aF cfg (aA cfg k) 20) k)by kernel_rfl).trans ((E22 _ _ _ a0 a1 a2 a3 a4).trans ?_)
 rw[show(fun i0 i1 l2 i3 b4 t5 v6=>RN 22 Tryz.f22 (O22 a0 a1 a2 a3 a4) (aA cfg k) (aF cfg (aA cfg k) 20) k (aJ Tryz.f22 0) (Dl i0 i1 l2 i3 b4 t5 v6))=(L22 (aA cfg k) k)from(funext fun i0=>funext fun i1=>funext fun l2=>funext fun i3=>funext fun b4=>funext fun t5=>funext fun v6=>ih i0 i1 l2 i3 b4 t5 v6)]
theorem M22 (a0:List V) (a1:Int) (a2:Bool) (a3:Nat) (a4:V) {r:V×List Ob} (h:Evt (fun k n=>T22 (aA cfg k) (L22 (aA cfg k) n) a0 a1 a2 a3 a4) r):Ret 22 [V.ref 0 0] [Ob.cells [V.lst 5 false a0,V.int TM a1,V.ifo a2 a3 a4]] r:=aR (g:=fun k n=>T22 (aA cfg k) (L22 (aA cfg k) n) a0 a1 a2 a3 a4) (fun k=>C22 k a0 a1 a2 a3 a4) h
theorem Mn (i0:Int) (i1:Int) (l2:List V) (i3:Int) (b4:Bool) (t5:Nat) (v6:V) {r:V×List Ob} (h:Evt (fun k n=>yS (aA cfg k) (L22 (aA cfg k) n) i0 i1 l2 i3 b4 t5 v6) r):Evt (fun k n=>(L22 (aA cfg k) n) i0 i1 l2 i3 b4 t5 v6) r:=aX (fun k n=>rfl) h
def T24 (call:FuncId→Fun) (a0:List V) (a1:Int) (a2:Bool) (a3:Nat) (a4:V):Option (V×List Ob):=
 TN (call 46 [(V.ref 0 0),(V.int .i64 4)] [(Ob.cells [(V.lst 5 false a0),(V.int .i64 a1),(V.ifo a2 a3 a4)])]) fun z0=>
 chk (decide (0≤(0:Int))) (chk (decide ((0:Int)<((length (getL z0.1):Nat):Int))) (chk (decide (0≤(1:Int))) (chk (decide ((1:Int)<((length (getL z0.1):Nat):Int))) (chk (decide (0≤(8:Int))) (chk (decide (0≤(2:Int))) (chk (decide ((2:Int)<((length (getL z0.1):Nat):Int))) (chk (decide (0≤(16:Int))) (chk (decide (0≤(3:Int))) (chk (decide ((3:Int)<((length (getL z0.1):Nat):Int))) (chk (decide (0≤(24:Int))) (some ((V.int Uk (bits BinOp.or Uk (bits BinOp.or Uk (bits BinOp.or Uk (TK Uk (getI (getD (getL z0.1) (TO (0:Int)) V.bot))) (TK Uk ((TK Uk (getI (getD (getL z0.1) (TO (1:Int)) V.bot)))*2 ^ min (TO (8:Int)) (Uz Uk)))) (TK Uk ((TK Uk (getI (getD (getL z0.1) (TO (2:Int)) V.bot)))*2 ^ min (TO (16:Int)) (Uz Uk)))) (TK Uk ((TK Uk (getI (getD (getL z0.1) (TO (3:Int)) V.bot)))*2 ^ min (TO (24:Int)) (Uz Uk))))),[(Ob.cells [(V.lst 5 false (getL (headD (Ob.getC (headD z0.2 Ob.dead)) V.bot))),(V.int .i64 (getI (headD (tail (Ob.getC (headD z0.2 Ob.dead))) V.bot))),(V.ifo (V.ifN (headD (tail (tail (Ob.getC (headD z0.2 Ob.dead)))) V.bot)) (V.ifT (headD (tail (tail (Ob.getC (headD z0.2 Ob.dead)))) V.bot)) (V.ifV (headD (tail (tail (Ob.getC (headD z0.2 Ob.dead)))) V.bot)))])]))))))))))))
def O24 (a0:List V) (a1:Int) (a2:Bool) (a3:Nat) (a4:V):List Ob:=[Ob.cells [V.lst 5 false a0,V.int TM a1,V.ifo a2 a3 a4]]
def A24:List V:=[V.ref 0 0]
theorem E24 (a0:List V) (a1:Int) (a2:Bool) (a3:Nat) (a4:V):GO 24 Tryz.f24 A24 (O24 a0 a1 a2 a3 a4) call icall again=T24 call a0 a1 a2 a3 a4:=by kernel_rfl
theorem C24 (k:Nat) (a0:List V) (a1:Int) (a2:Bool) (a3:Nat) (a4:V):aA cfg (k+1) 24 A24 (O24 a0 a1 a2 a3 a4)=T24 (aA cfg k) a0 a1 a2 a3 a4:=
 (show aA cfg (k+1) 24 A24 (O24 a0 a1 a2 a3 a4)=GO 24 Tryz.f24 A24 (O24 a0 a1 a2 a3 a4) (aA cfg k) (aF cfg (aA cfg k) 20) (RN 24 Tryz.f24 (O24 a0 a1 a2 a3 a4) (aA cfg k) (aF cfg (aA cfg k) 20) k)by kernel_rfl).trans (E24 _ _ _ a0 a1 a2 a3 a4)
theorem M24 (a0:List V) (a1:Int) (a2:Bool) (a3:Nat) (a4:V) {r:V×List Ob} (h:Evt (fun k n=>T24 (aA cfg k) a0 a1 a2 a3 a4) r):Ret 24 [V.ref 0 0] [Ob.cells [V.lst 5 false a0,V.int TM a1,V.ifo a2 a3 a4]] r:=aR (g:=fun k n=>T24 (aA cfg k) a0 a1 a2 a3 a4) (fun k=>C24 k a0 a1 a2 a3 a4) h
def T47 (call:FuncId→Fun) (a0:List V) (a1:Int) (a2:Bool) (a3:Nat) (a4:V) (a5:Int):Option (V×List Ob):=
 TN (call 22 [(V.ref 0 0)] [(Ob.cells [(V.lst 5 false a0),(V.int .i64 a1),(V.ifo a2 a3 a4)])]) fun z0=>
 TN (call 22 [(V.ref 0 0)] [(Ob.cells [(V.lst 5 false (getL (headD (Ob.getC (headD z0.2 Ob.dead)) V.bot))),(V.int .i64 (getI (headD (tail (Ob.getC (headD z0.2 Ob.dead))) V.bot))),(V.ifo (V.ifN (headD (tail (tail (Ob.getC (headD z0.2 Ob.dead)))) V.bot)) (V.ifT (headD (tail (tail (Ob.getC (headD z0.2 Ob.dead)))) V.bot)) (V.ifV (headD (tail (tail (Ob.getC (headD z0.2 Ob.dead)))) V.bot)))])]) fun z1=>
 some ((V.agg [(V.int .i64 (TK .i64 (a5+(getI z0.1)))),(V.int .i64 (TK .i64 ((TK .i64 (a5+(getI z0.1)))+(getI z1.1))))]),[(Ob.cells [(V.lst 5 false (getL (headD (Ob.getC (headD z1.2 Ob.dead)) V.bot))),(V.int .i64 (getI (headD (tail (Ob.getC (headD z1.2 Ob.dead))) V.bot))),(V.ifo (V.ifN (headD (tail (tail (Ob.getC (headD z1.2 Ob.dead)))) V.bot)) (V.ifT (headD (tail (tail (Ob.getC (headD z1.2 Ob.dead)))) V.bot)) (V.ifV (headD (tail (tail (Ob.getC (headD z1.2 Ob.dead)))) V.bot)))])])
def O47 (a0:List V) (a1:Int) (a2:Bool) (a3:Nat) (a4:V):List Ob:=[Ob.cells [V.lst 5 false a0,V.int TM a1,V.ifo a2 a3 a4]]
def A47 (a5:Int):List V:=[V.ref 0 0,V.int TM a5]
theorem E47 (a0:List V) (a1:Int) (a2:Bool) (a3:Nat) (a4:V) (a5:Int):GO 47 Tryz.f47 (A47 a5) (O47 a0 a1 a2 a3 a4) call icall again=T47 call a0 a1 a2 a3 a4 a5:=by kernel_rfl
theorem C47 (k:Nat) (a0:List V) (a1:Int) (a2:Bool) (a3:Nat) (a4:V) (a5:Int):aA cfg (k+1) 47 (A47 a5) (O47 a0 a1 a2 a3 a4)=T47 (aA cfg k) a0 a1 a2 a3 a4 a5:=
 (show aA cfg (k+1) 47 (A47 a5) (O47 a0 a1 a2 a3 a4)=GO 47 Tryz.f47 (A47 a5) (O47 a0 a1 a2 a3 a4) (aA cfg k) (aF cfg (aA cfg k) 20) (RN 47 Tryz.f47 (O47 a0 a1 a2 a3 a4) (aA cfg k) (aF cfg (aA cfg k) 20) k)by kernel_rfl).trans (E47 _ _ _ a0 a1 a2 a3 a4 a5)
theorem M47 (a0:List V) (a1:Int) (a2:Bool) (a3:Nat) (a4:V) (a5:Int) {r:V×List Ob} (h:Evt (fun k n=>T47 (aA cfg k) a0 a1 a2 a3 a4 a5) r):Ret 47 [V.ref 0 0,V.int TM a5] [Ob.cells [V.lst 5 false a0,V.int TM a1,V.ifo a2 a3 a4]] r:=aR (g:=fun k n=>T47 (aA cfg k) a0 a1 a2 a3 a4 a5) (fun k=>C47 k a0 a1 a2 a3 a4 a5) h
end Go.Proofs.YtgpofjbdjiajeaaGreatDoor
end
section
namespace Go.Proofs.YtgpofjbdjiajeaaGreatDoor
open Go.Ev Go
theorem Mo (n:Int):TK .u8 n=n % 256:=by simp[TK,Wv,Uz]
theorem Mp (x:Nat):V.int .u8 (TK .u8 ((x:Nat):Int))=V.int .u8 (((Uo x).toNat:Nat):Int):=by
 rw[Mo,Vm];rfl
theorem I4 (c:UInt8):ofBytes [c]=[V.int .u8 ((c.toNat:Nat):Int)]:=rfl
theorem Sl (x:Nat):V.int .u8 (bits .or .u8 (TK .u8 ((x:Nat):Int)) 128)=V.int .u8 (((Uo (x % 128+128)).toNat:Nat):Int):=by
 have key:∀c:UInt8,bits .or .u8 ((c.toNat:Nat):Int) 128=((c.toNat % 128+128:Nat):Int):=nU (by decide+kernel)
 have:=key (Uo x)
 have e:TK .u8 ((x:Nat):Int)=(((Uo x).toNat:Nat):Int):=by rw[Mo,Vm];rfl
 rw[e,this,Vm,Vm]
 congr 1
 omega
theorem P1:∀(n x:Nat) (s:Bs),x<128 ^ (n+1)→s.length+n≤1000000000→
  Evt (fun k j=>L18 (aA cfg k) j (ofBytes s) (x:Nat)) (.lst 5 true (ofBytes (s++tW n x)),[]):=by
 have small:∀(n x:Nat) (s:Bs),x<128→s.length+n≤1000000000→Evt (fun k j=>L18 (aA cfg k) j (ofBytes s) (x:Nat)) (.lst 5 true (ofBytes (s++tW n x)),[]):=by
  intro n x s hx hs
  refine OP (ofBytes s) (x:Nat) ?_
  have h1:¬(((x:Nat):Int)≥128):=by omega
  rw[Bt n hx,←lT,I4]
  simp only[GA,h1,decide_false,TL,if_false,Mp]
  simp only[cZ (gB (x:=ofBytes s) (y:=[V.int .u8 (((Uo x).toNat:Nat):Int)]) (n:=2) (by rw[aL];simp;omega))]
  exact aD _
 intro n
 induction n with
 |zero=>intro x s hx hs;exact small 0 x s (by simpa using hx) hs
 |succ n ih=>
  intro x s hx hs
  by_cases h:x<128
  ·exact small (n+1) x s h hs
  ·have hd:x / 128<128 ^ (n+1):=by
    rw[Wu]at hx
    exact Nat.div_lt_of_lt_mul (by rw[VN];exact hx)
   have next:=ih (x / 128) (s++[Uo (x % 128+128)]) hd (by simp;omega)
   rw[Ud,Vt]at next
   rw[tW,if_neg h]
   refine OP (ofBytes s) (x:Nat) ?_
   have h1:(((x:Nat):Int)≥128):=by omega
   have e:V3 ((x:Nat):Int) (2 ^ min (TO (7:Int)) (Uz TM))=((x / 128:Nat):Int):=by
    have:(2:Int) ^ min (TO (7:Int)) (Uz TM)=((128:Nat):Int):=rfl
    rw[this,Int.fdiv_eq_ediv_of_nonneg _ (by omega)];rfl
   simp only[GA,h1,decide_true,if_true,Sl,e,aI (show(0:Int)≤7 by decide)]
   simp only[cZ (gB (x:=ofBytes s) (y:=[V.int .u8 (((Uo (x % 128+128)).toNat:Nat):Int)]) (n:=2) (by rw[aL];simp;omega))]
   rw[←I4,lT]
   exact next
theorem vK (x:Nat) (s:Bs) (hx:x<4611686018427387904) (hs:s.length≤900000000):
  Ret 18 [.lst 5 true (ofBytes s), .int .i64 (x:Nat)] [] (.lst 5 true (ofBytes (s++dO x)),[]):=by
 refine M18 (ofBytes s) (x:Nat) ?_
 simp only[T18]
 have hp:(4611686018427387904:Nat)≤128 ^ (10+1):=by decide
 exact P1 10 x s (Up hx hp) (by omega)
theorem OR (x:W32) (s:Bs) (hs:s.length≤900000000):
  Ret 17 [.lst 5 true (ofBytes s), .int .u32 ((x.toNat:Nat):Int)] [] (.lst 5 true (ofBytes (s++le4 x.toNat)),[]):=by
 refine M17 (ofBytes s) ((x.toNat:Nat):Int) ?_
 have hp:∀k:Nat,k≤32→V3 ((x.toNat:Nat):Int) (2 ^ k)=((x.toNat / 2 ^ k:Nat):Int):=fun k _=>by
  have:(2:Int) ^ k=((2 ^ k:Nat):Int):=by simp
  rw[this,Int.fdiv_eq_ediv_of_nonneg _ (Int.natCast_nonneg _)];rfl
 have e8:V3 ((x.toNat:Nat):Int) (2 ^ min (TO (8:Int)) (Uz Uk))=((x.toNat / 256:Nat):Int):=hp 8 (by omega)
 have e16:V3 ((x.toNat:Nat):Int) (2 ^ min (TO (16:Int)) (Uz Uk))=((x.toNat / 65536:Nat):Int):=hp 16 (by omega)
 have e24:V3 ((x.toNat:Nat):Int) (2 ^ min (TO (24:Int)) (Uz Uk))=((x.toNat / 16777216:Nat):Int):=hp 24 (by omega)
 have el:[V.int .u8 (((Uo x.toNat).toNat:Nat):Int),V.int .u8 (((Uo (x.toNat / 256)).toNat:Nat):Int),V.int .u8 (((Uo (x.toNat / 65536)).toNat:Nat):Int),V.int .u8 (((Uo (x.toNat / 16777216)).toNat:Nat):Int)]=ofBytes (le4 x.toNat):=rfl
 simp only[T17,e8,e16,e24,Mp,el,aI (show(0:Int)≤8 by decide),aI (show(0:Int)≤16 by decide),aI (show(0:Int)≤24 by decide)]
 simp only[cZ (gB (x:=ofBytes s) (y:=ofBytes (le4 x.toNat)) (n:=2) (by rw[aL,aL];simp[le4];omega)),lT]
 exact aD _
mutual
theorem vL:∀p:Pt,∀a,WL a p→(kT p).length+22≤100*cntF p
 | .mk k h b kids cuts e,a,hw=>by
  rw[WL]at hw
  rw[kT,cntF]
  have n1:=(dG k).2
  have n2:=(dG (h.2 - h.1)).2
  have n3:=(dG (b.2 - b.1)).2
  obtain⟨_,_,_,_,hk⟩:=hw
  rcases hk with⟨rfl,rfl,rfl,rfl⟩|⟨rfl,rfl,rfl,hk⟩|⟨rfl,z,hk,_,_⟩
  ·rw[if_neg (by decide),if_neg (by decide)]
   simp only[Ug,Uh];omega
  ·match kids,hk with
   |[q],hk=>
    rw[WL1]at hk
    have:=vL q b.1 hk
    rw[if_pos rfl,dW,dW]
    have e3:(((kJ [q]).head?).getD ([],0)).1=kT q:=by rw[kJ];rfl
    rw[e3]
    simp only[Ug];omega
  ·have:=GE kids cuts b.1 z hk
   have n4:=(dG kids.length).2
   have n5:=(dG (e.1 - (pR b.1 cuts (kJ kids)).2)).2
   have n6:=(dG (e.2 - e.1)).2
   rw[if_neg (by decide),if_pos rfl]
   simp only[Ug];omega
theorem GE:∀(ks:List Pt) (cs:List (Nat×Nat)) (a z:Nat),WLs a cs ks z→(pR a cs (kJ ks)).1.length≤100*dW ks
 |[],cs,a,z,h=>by
  rw[WLs]at h
  obtain⟨rfl,rfl⟩:=h
  simp[pR]
 |q::ks,cs,a,z,h=>by
  rw[WLs]at h
  obtain⟨c,r,rfl,_,_,h3,h4⟩:=h
  have h5:=vL q c.2 h3
  have h6:=GE ks r q.bd.2 z h4
  have h7:=lS q
  have n1:=(dG (c.1 - a)).2
  have n2:=(dG (c.2 - c.1)).2
  rw[kJ,pR,dW]
  simp only[Ug,Ua]
  omega
end
end Go.Proofs.YtgpofjbdjiajeaaGreatDoor
end
section
namespace Go.Proofs.YtgpofjbdjiajeaaGreatDoor
open Go.Ev Go
theorem OS {n:Nat} (h:n<4611686018427387904):(BitVec.ofInt 64 ((n:Nat):Int)).toNat=n:=by
 rw[BitVec.toNat_ofInt]
 omega
theorem NM {a b:Nat} (ha:a<4611686018427387904) (hb:b<4611686018427387904):bits .or .i64 ((a:Nat):Int) ((b:Nat):Int)=((a ||| b:Nat):Int):=by
 show TK .i64 (((BitVec.ofInt 64 ((a:Nat):Int) ||| BitVec.ofInt 64 ((b:Nat):Int)).toNat:Nat):Int)=_
 rw[BitVec.toNat_or,OS ha,OS hb]
 have:a ||| b<2 ^ 62:=Nat.or_lt_two_pow ha hb
 exact wrap64 (by omega) (by omega)
theorem Es {a v:Nat} (k:Nat) (hv:v<2 ^ k):a*2 ^ k ||| v=a*2 ^ k+v:=by
 have:=Nat.two_pow_add_eq_or_of_lt hv a
 rw[VN a];exact this.symm
def putS (w:Nat) (st:Bs×Nat) (c:UInt8):Bs×Nat:=if st.2+1=w then(st.1++[c,13,10],0)else(st.1++[c],st.2+1)
end Go.Proofs.YtgpofjbdjiajeaaGreatDoor
end
section
namespace Go.Proofs.YtgpofjbdjiajeaaGreatDoor
open Go.Ev Go
open List (headD tail)
open V (getI getL)
abbrev Er:=Option (Nat×Int)
def erV:Er→V
 |none=> .ifo true 0 .bot
 |some p=> .ifo false 110 (.cpt [.int .i64 ((p.1:Nat):Int), .ifc 32 (.int .i64 p.2)])
abbrev rdS (b:Bs) (a:Nat) (e:Er):Ob:= .cells [.lst 5 false (ofBytes b), .int .i64 ((a:Nat):Int),erV e]
theorem cK (b:Bs) (a:Nat) (e:Er):getL (headD (Ob.getC (headD [rdS b a e] Ob.dead)) V.bot)=ofBytes b:=rfl
theorem cL (b:Bs) (a:Nat) (e:Er):getI (headD (tail (Ob.getC (headD [rdS b a e] Ob.dead))) V.bot)=((a:Nat):Int):=rfl
theorem cM (b:Bs) (a:Nat) (e:Er):headD (tail (tail (Ob.getC (headD [rdS b a e] Ob.dead)))) V.bot=erV e:=rfl
theorem bB (e:Er):V.ifo (V.ifN (erV e)) (V.ifT (erV e)) (V.ifV (erV e))=erV e:=by cases e<;>rfl
theorem kU (e:Er):V.ifN (erV e)=e.isNone:=by cases e<;>rfl
theorem qX (b:Bs) (a:Nat) (e:Er) (n:Int):Ret 23 [.ref 0 0, .int .i64 n] [rdS b a e] (.tup [],[rdS b a (e.or (some (a,n)))]):=by
 cases e with
 |none=>
  refine M23 (ofBytes b) ((a:Nat):Int) true 0 .bot n ?_
  simp only[T23,if_true]
  exact aD _
 |some p=>
  refine M23 (ofBytes b) ((a:Nat):Int) false 110 (.cpt [.int .i64 ((p.1:Nat):Int), .ifc 32 (.int .i64 p.2)]) n ?_
  simp only[T23,TL,if_false]
  exact aD _
theorem I5 (n:Nat):TZ n (V.int .u8 (0:Int))=ofBytes (TZ n 0):=by
 simp[ofBytes]
theorem NN (b:Bs) (x y:Nat):Wb x (Wp y (ofBytes b))=ofBytes ((b.take y).drop x):=by
 simp[ofBytes,List.map_drop,Wm]
theorem I6 (b:Bs) (hb:b.length≤1000000000) (a n:Nat) (hn:n≤1000) (h:a+n≤b.length):
  Ret 46 [.ref 0 0, .int .i64 ((n:Nat):Int)] [rdS b a none] (.lst 5 false (ofBytes ((b.drop a).take n)),[rdS b (a+n) none]):=by
 refine M46 (ofBytes b) ((a:Nat):Int) true 0 .bot ((n:Nat):Int) ?_
 have w1:TK .i64 (((b.length:Nat):Int) - ((a:Nat):Int))=((b.length:Nat):Int) - ((a:Nat):Int):=wrap64 (by omega) (by omega)
 have w2:TK .i64 (((a:Nat):Int)+((n:Nat):Int))=((a+n:Nat):Int):=by rw[wrap64 (by omega) (by omega)];omega
 have w3:TK .i64 (((a+n:Nat):Int) - ((n:Nat):Int))=((a:Nat):Int):=by rw[wrap64 (by omega) (by omega)];omega
 have h1:¬(((n:Nat):Int)>((b.length:Nat):Int) - ((a:Nat):Int)):=by omega
 have h2:(0:Int)≤((a+n:Nat):Int):=by omega
 have h3:((a+n:Nat):Int)≤((b.length:Nat):Int):=by omega
 have h4:(0:Int)≤((a:Nat):Int):=by omega
 have h5:((a:Nat):Int)≤((a+n:Nat):Int):=by omega
 simp only[T46,aL,if_true,w1,h1,decide_false,aY,TL,if_false,UP,w2,w3,aI h2,aI h3,aI h4,aI h5,TW,NN]
 have e:(b.take (a+n)).drop a=(b.drop a).take n:=by rw[List.drop_take];congr 1;omega
 rw[e]
 exact aD _
theorem Bw (b:Bs) (hb:b.length≤1000000000) (a n:Nat) (hn:n≤1000) (ha:a≤b.length) (h:b.length<a+n):
  Ret 46 [.ref 0 0, .int .i64 ((n:Nat):Int)] [rdS b a none] (.lst 5 false (ofBytes (TZ n 0)),[rdS b a (some (a,10))]):=by
 refine M46 (ofBytes b) ((a:Nat):Int) true 0 .bot ((n:Nat):Int) ?_
 have w1:TK .i64 (((b.length:Nat):Int) - ((a:Nat):Int))=((b.length:Nat):Int) - ((a:Nat):Int):=wrap64 (by omega) (by omega)
 have h1:(((n:Nat):Int)>((b.length:Nat):Int) - ((a:Nat):Int)):=by omega
 have h2:(0:Int)≤((n:Nat):Int):=by omega
 have h3:((n:Nat):Int)* ((2:Nat):Int)≤70368744177664:=by omega
 have h4:(((n:Nat):Int)==((n:Nat):Int))=true:=by simp
 simp only[T46,aL,if_true,w1,h1,decide_true,aY]
 refine aB (qX b a none 10) ?_
 simp only[Wz,cK,cL,cM,kU,bB,UW,UJ,if_true,h4,cR,aI h2,aI h3,TW,I5]
 exact aD _
theorem GF (b:Bs) (a n:Nat) (hn:n≤1000) (p:Nat×Int):
  Ret 46 [.ref 0 0, .int .i64 ((n:Nat):Int)] [rdS b a (some p)] (.lst 5 false (ofBytes (TZ n 0)),[rdS b a (some p)]):=by
 refine M46 (ofBytes b) ((a:Nat):Int) false 110 (.cpt [.int .i64 ((p.1:Nat):Int), .ifc 32 (.int .i64 p.2)]) ((n:Nat):Int) ?_
 have h2:(0:Int)≤((n:Nat):Int):=by omega
 have h3:((n:Nat):Int)* ((2:Nat):Int)≤70368744177664:=by omega
 have h4:(((n:Nat):Int)==((n:Nat):Int))=true:=by simp
 simp only[T46,TL,if_false,aY,UJ,if_true,h4,cR,aI h2,aI h3,TW,I5]
 exact aD _
def RdF {α:Type} (f:FuncId) (args:List V) (b:Bs) (a:Nat) (P:Bs→PR α) (val:α→V):Prop:=
 (∀v r,P (b.drop a)= .ok (v,r)→∃a',a≤a'∧a'≤b.length∧r=b.drop a'∧Ret f (.ref 0 0::args) [rdS b a none] (val v,[rdS b a' none]))∧
 (∀n,P (b.drop a)= .error n→∃v a' p,p.2=n∧Ret f (.ref 0 0::args) [rdS b a none] (v,[rdS b a' (some p)]))
def RdE (f:FuncId) (args:List V) (b:Bs):Prop:=∀(a:Nat) (p:Nat×Int),∃v,Ret f (.ref 0 0::args) [rdS b a (some p)] (v,[rdS b a (some p)])
theorem Mq (c:UInt8):V.getI (Ul (ofBytes [c]) (TO (0:Int)) .bot)=((c.toNat:Nat):Int):=rfl
theorem GG (c:UInt8):(0:Int)<(((ofBytes [c]).length:Nat):Int):=by rw[aL,List.length_singleton];decide
theorem eq0 (c:UInt8):(((c.toNat:Nat):Int)==(0:Int))=decide (c.toNat=0):=by
 by_cases h:c.toNat=0
 ·rw[h];rfl
 ·rw[decide_eq_false h]
  have:¬((c.toNat:Nat):Int)=0:=by omega
  simpa using this
theorem P2 {i x:Nat} (c:UInt8) (hi:i*7≤40) (hx:x<2 ^ (i*7)):
  bits .or .i64 ((x:Nat):Int) (TK .i64 ((TK .i64 (bits .and .u8 ((c.toNat:Nat):Int) 127))*2 ^ min (TO (((i*7:Nat):Int))) (Uz TM)))=((x+c.toNat % 128*2 ^ (i*7):Nat):Int):=by
 have h0:∀c:UInt8,bits .and .u8 ((c.toNat:Nat):Int) 127=((c.toNat % 128:Nat):Int):=nU (by decide+kernel)
 have hp:2 ^ (i*7)≤2 ^ 40:=Nat.pow_le_pow_right (by omega) hi
 have hp40:(2:Nat) ^ 40=1099511627776:=rfl
 have hm:c.toNat % 128*2 ^ (i*7)≤127*2 ^ (i*7):=Vi _ (by omega)
 have e1:(2:Int) ^ min (TO (((i*7:Nat):Int))) (Uz TM)=((2 ^ (i*7):Nat):Int):=by
  rw[TW,show Uz TM=64 from rfl,Nat.min_eq_left (by omega)]
  simp
 have e0:TK .i64 ((c.toNat % 128:Nat):Int)=((c.toNat % 128:Nat):Int):=wrap64 (by omega) (by omega)
 rw[h0 c,e0,e1,←Int.natCast_mul,wrap64 (by omega) (by omega),NM (by omega) (by omega)]
 congr 1
 rw[Nat.or_comm,Es _ hx,Nat.add_comm]
theorem vM (b:Bs):RdE 22 [] b:=by
 intro a p
 refine⟨.int .i64 0,?_⟩
 refine M22 (ofBytes b) ((a:Nat):Int) false 110 (.cpt [.int .i64 ((p.1:Nat):Int), .ifc 32 (.int .i64 p.2)]) ?_
 simp only[T22]
 refine Mn 0 0 (ofBytes b) ((a:Nat):Int) false 110 (.cpt [.int .i64 ((p.1:Nat):Int), .ifc 32 (.int .i64 p.2)]) ?_
 simp only[yS]
 refine aB (GF b a 1 (by omega) p) ?_
 have h1:¬((0:Int)>0):=by omega
 have h2:TK .i64 ((0:Int)*7)=0:=by decide+kernel
 have h3:¬((0:Int)>40):=by omega
 have h4:(0:Int)<(((ofBytes (TZ 1 0)).length:Nat):Int):=by decide
 simp only[cK,cL,cM,kU,bB,bM,aI (VJ 0),aI h4,h1,h2,h3,decide_false,aY,TL,if_false,UW,UJ,if_true]
 exact aD _
end Go.Proofs.YtgpofjbdjiajeaaGreatDoor
end
section
namespace Go.Proofs.YtgpofjbdjiajeaaGreatDoor
open Go.Ev Go
open List (headD tail)
open V (getI getL)
set_option maxRecDepth 10000 in
theorem Mr (b:Bs) (hb:b.length≤1000000000):∀(s:Bs) (i x a:Nat),s=b.drop a→a≤b.length→i≤6→x<2 ^ (i*7)→
  (∀v r,lX i x s= .ok (v,r)→∃a',a≤a'∧a'≤b.length∧r=b.drop a'∧Evt (fun k j=>L22 (aA cfg k) j (x:Nat) (i:Nat) (ofBytes b) (a:Nat) true 0 .bot) (.int .i64 (v:Nat),[rdS b a' none]))∧
  (∀n,lX i x s= .error n→∃a' p,p.2=n∧Evt (fun k j=>L22 (aA cfg k) j (x:Nat) (i:Nat) (ofBytes b) (a:Nat) true 0 .bot) (.int .i64 0,[rdS b a' (some p)]))
 |[],i,x,a,hs,ha,hi,hx=>by
  have hla:b.length≤a:=by
   have:=congrArg US hs
   rw[Uv,Uh]at this
   omega
  refine⟨(fun v r h=>by rw[lX]at h;cases h),fun n h=>?_⟩
  rw[lX]at h
  cases h
  refine⟨a,(a,10),rfl,?_⟩
  refine Mn (x:Nat) (i:Nat) (ofBytes b) (a:Nat) true 0 .bot ?_
  simp only[yS]
  refine aB (Bw b hb a 1 (by omega) ha (by omega)) ?_
  have h4:(0:Int)<(((ofBytes (TZ 1 0)).length:Nat):Int):=by decide
  have h5:V.getI (Ul (ofBytes (TZ 1 0)) (TO (0:Int)) .bot)=0:=rfl
  have hw:TK .i64 (((i:Nat):Int)*7)=((i*7:Nat):Int):=by rw[wrap64 (by omega) (by omega)];omega
  simp only[cK,cL,cM,kU,bB,bM,aI (VJ 0),aI h4,h5,hw,beq_self_eq_true]
  have hf:=qX b a (some (a,10)) 11
  by_cases h0:((i:Nat):Int)>0
  ·simp only[h0,decide_true,if_true,VY,if_false,aY]
   refine aB hf ?_
   simp only[Wz,cK,cL,cM,kU,bB,UW,UJ,if_true]
   exact aD _
  ·have h6:¬(((i*7:Nat):Int)>40):=by omega
   simp only[h0,decide_false,TL,if_false,h6,aY,UW,UJ,if_true]
   exact aD _
 |c::s,i,x,a,hs,ha,hi,hx=>by
  have hc:=c.toNat_lt
  have hla:a<b.length:=by
   rcases VM a b.length with h|h
   ·exact h
   ·rw[List.drop_of_length_le h]at hs;cases hs
  have hs1:s=b.drop (a+1):=by
   rw[drop_at hla,List.cons.injEq]at hs
   exact hs.2
  have ht:=I6 b hb a 1 (by omega) (by omega)
  have e1:(b.drop a).take 1=[c]:=by rw[←hs];rfl
  rw[e1]at ht
  have hw:TK .i64 (((i:Nat):Int)*7)=((i*7:Nat):Int):=by rw[wrap64 (by omega) (by omega)];omega
  have hy:(if(decide (((i:Nat):Int)>0))=true then
    if(((c.toNat:Nat):Int)==(0:Int))=false then some (decide (((i*7:Nat):Int)>40))else some true
   else some (decide (((i*7:Nat):Int)>40)))=some (decide ((0<i∧c.toNat=0)∨40<i*7)):=by
   rw[eq0]
   by_cases h0:((i:Nat):Int)>0
   ·rw[decide_eq_true h0,if_pos rfl]
    by_cases h1:c.toNat=0
    ·rw[decide_eq_true h1,if_neg (by decide),decide_eq_true (show(0<i∧c.toNat=0)∨40<i*7 from .inl ⟨by omega,h1⟩)]
    ·rw[decide_eq_false h1,if_pos rfl]
     congr 1
     have:(((i*7:Nat):Int)>40)↔((0<i∧c.toNat=0)∨40<i*7):=by omega
     exact decide_eq_decide.2 this
   ·rw[decide_eq_false h0,if_neg (by decide)]
    congr 1
    have:(((i*7:Nat):Int)>40)↔((0<i∧c.toNat=0)∨40<i*7):=by omega
    exact decide_eq_decide.2 this
  have start:∀{res:V×List Ob},Evt (fun k j=>yS (aA cfg k) (L22 (aA cfg k) j) (x:Nat) (i:Nat) (ofBytes b) (a:Nat) true 0 .bot) res→Evt (fun k j=>L22 (aA cfg k) j (x:Nat) (i:Nat) (ofBytes b) (a:Nat) true 0 .bot) res:=
   fun h=>Mn (x:Nat) (i:Nat) (ofBytes b) (a:Nat) true 0 .bot h
  rw[lX]
  by_cases hcond:(0<i∧c.toNat=0)∨40<i*7
  ·rw[if_pos hcond]
   refine⟨(fun v r h=>by cases h),fun n h=>?_⟩
   cases h
   refine⟨a+1,(a+1,11),rfl,start ?_⟩
   simp only[yS]
   refine aB ht ?_
   simp only[cK,cL,cM,kU,bB,bM,aI (VJ 0),aI (GG c),Mq,hw,hy,decide_eq_true hcond,aY,if_true]
   refine aB (qX b (a+1) none 11) ?_
   simp only[Wz,cK,cL,cM,kU,bB,UW,UJ,if_true]
   exact aD _
  ·rw[if_neg hcond]
   have hi7:i*7≤40:=by omega
   have ho:=P2 (i:=i) (x:=x) c hi7 hx
   have h7:(0:Int)≤((i*7:Nat):Int):=by omega
   have body:∀{res:V×List Ob},Evt (fun k j=>if(decide (((c.toNat:Nat):Int)<(128:Int)))=true then
     if(decide (((x+c.toNat % 128*2 ^ (i*7):Nat):Int)≥(1099511627776:Int)))=true then
      TN (aA cfg k 23 [.ref 0 0, .int .i64 11] [rdS b (a+1) none]) fun z3=>some ((V.int .i64 0),[.cells [.lst 5 false (getL (headD (Ob.getC (headD z3.2 Ob.dead)) V.bot)), .int .i64 (getI (headD (tail (Ob.getC (headD z3.2 Ob.dead))) V.bot)), .ifo (V.ifN (headD (tail (tail (Ob.getC (headD z3.2 Ob.dead)))) V.bot)) (V.ifT (headD (tail (tail (Ob.getC (headD z3.2 Ob.dead)))) V.bot)) (V.ifV (headD (tail (tail (Ob.getC (headD z3.2 Ob.dead)))) V.bot))]])
     else some (.int .i64 ((x+c.toNat % 128*2 ^ (i*7):Nat):Int),[rdS b (a+1) none])
    else L22 (aA cfg k) j ((x+c.toNat % 128*2 ^ (i*7):Nat):Int) ((i+1:Nat):Int) (ofBytes b) ((a+1:Nat):Int) true 0 .bot) res→Evt (fun k j=>L22 (aA cfg k) j (x:Nat) (i:Nat) (ofBytes b) (a:Nat) true 0 .bot) res:=by
    intro res h
    refine start ?_
    simp only[yS]
    refine aB ht ?_
    have hw1:TK .i64 (((i:Nat):Int)+1)=((i+1:Nat):Int):=by rw[wrap64 (by omega) (by omega)];omega
    simp only[cK,cL,cM,kU,bB,bM,aI (VJ 0),aI (GG c),Mq,hw,hy,decide_eq_false hcond,aY,TL,if_false,U5,UP,aI h7,ho,hw1]
    exact h
   by_cases h1:c.toNat<128
   ·rw[if_pos h1]
    have h1' :((c.toNat:Nat):Int)<128:=by omega
    by_cases h2:1099511627776≤x+c.toNat % 128*2 ^ (i*7)
    ·rw[if_pos h2]
     refine⟨(fun v r h=>by cases h),fun n h=>?_⟩
     cases h
     refine⟨a+1,(a+1,11),rfl,body ?_⟩
     have h2' :((x+c.toNat % 128*2 ^ (i*7):Nat):Int)≥1099511627776:=by omega
     simp only[h1',h2',decide_true,if_true]
     refine aB (qX b (a+1) none 11) ?_
     simp only[Wz,cK,cL,cM,kU,bB]
     exact aD _
    ·rw[if_neg h2]
     refine⟨fun v r h=>?_,(fun n h=>by cases h)⟩
     cases h
     refine⟨a+1,by omega,by omega,hs1,body ?_⟩
     have h2' :¬(((x+c.toNat % 128*2 ^ (i*7):Nat):Int)≥1099511627776):=by omega
     simp only[h1',h2',decide_true,decide_false,if_true,TL,if_false]
     exact aD _
   ·rw[if_neg h1]
    have h1' :¬((c.toNat:Nat):Int)<128:=by omega
    have hx' :x+c.toNat % 128*2 ^ (i*7)<2 ^ ((i+1)*7):=by
     rw[P0]
     have hm:c.toNat % 128*2 ^ (i*7)≤127*2 ^ (i*7):=Vi _ (by omega)
     omega
    obtain⟨n1,n2⟩:=Mr b hb s (i+1) (x+c.toNat % 128*2 ^ (i*7)) (a+1) hs1 (by omega) (by omega) hx'
    refine⟨fun v r h=>?_,fun n h=>?_⟩
    ·obtain⟨a',g1,g2,g3,g4⟩:=n1 v r h
     refine⟨a',by omega,g2,g3,body ?_⟩
     simp only[h1',decide_false,TL,if_false]
     exact g4
    ·obtain⟨a',p,g1,g2⟩:=n2 n h
     refine⟨a',p,g1,body ?_⟩
     simp only[h1',decide_false,TL,if_false]
     exact g2
def Kj (n:Nat):V:= .int .i64 ((n:Nat):Int)
theorem nE (b:Bs) (hb:b.length≤1000000000) (a:Nat) (ha:a≤b.length):RdF 22 [] b a lU Kj:=by
 obtain⟨h1,h2⟩:=Mr b hb (b.drop a) 0 0 a rfl ha (by omega) (by omega)
 have start:∀{res:V×List Ob},Evt (fun k j=>L22 (aA cfg k) j ((0:Nat):Int) ((0:Nat):Int) (ofBytes b) (a:Nat) true 0 .bot) res→Ret 22 [.ref 0 0] [rdS b a none] res:=by
  intro res h
  refine M22 (ofBytes b) ((a:Nat):Int) true 0 .bot ?_
  simp only[T22]
  exact h
 refine⟨fun v r h=>?_,fun n h=>?_⟩
 ·obtain⟨a',g1,g2,g3,g4⟩:=h1 v r h
  exact⟨a',g1,g2,g3,start g4⟩
 ·obtain⟨a',p,g1,g2⟩:=h2 n h
  exact⟨_,a',p,g1,start g2⟩
theorem Ms {x y:Nat} (hx:x<4294967296) (hy:y<4294967296):bits .or .u32 ((x:Nat):Int) ((y:Nat):Int)=((x ||| y:Nat):Int):=by
 have h:x ||| y<2 ^ 32:=Nat.or_lt_two_pow hx hy
 show TK .u32 (((BitVec.ofInt 32 ((x:Nat):Int) ||| BitVec.ofInt 32 ((y:Nat):Int)).toNat:Nat):Int)=_
 rw[BitVec.ofInt_natCast,BitVec.ofInt_natCast,BitVec.toNat_or,BitVec.toNat_ofNat,BitVec.toNat_ofNat,Vz (by omega),Vz (by omega),wrap32 (by omega) (by omega)]
def Mt (n:Nat):V:= .int .u32 ((n:Nat):Int)
theorem GH (c0 c1 c2 c3:UInt8):bits .or .u32 (bits .or .u32 (bits .or .u32 (TK .u32 ((c0.toNat:Nat):Int)) (TK .u32 ((TK .u32 ((c1.toNat:Nat):Int))*2 ^ min (TO (8:Int)) (Uz Uk)))) (TK .u32 ((TK .u32 ((c2.toNat:Nat):Int))*2 ^ min (TO (16:Int)) (Uz Uk)))) (TK .u32 ((TK .u32 ((c3.toNat:Nat):Int))*2 ^ min (TO (24:Int)) (Uz Uk)))=((leN [c0,c1,c2,c3]:Nat):Int):=by
 have h0:=c0.toNat_lt;have h1:=c1.toNat_lt;have h2:=c2.toNat_lt;have h3:=c3.toNat_lt
 have p8:(2:Int) ^ min (TO (8:Int)) (Uz Uk)=256:=rfl
 have p16:(2:Int) ^ min (TO (16:Int)) (Uz Uk)=65536:=rfl
 have p24:(2:Int) ^ min (TO (24:Int)) (Uz Uk)=16777216:=rfl
 have w0:∀c:UInt8,TK .u32 ((c.toNat:Nat):Int)=((c.toNat:Nat):Int):=fun c=>wrap32 (by omega) (by have:=c.toNat_lt;omega)
 have w8:TK .u32 (((c1.toNat:Nat):Int)*256)=((c1.toNat*2 ^ 8:Nat):Int):=by rw[wrap32 (by omega) (by omega)];omega
 have w16:TK .u32 (((c2.toNat:Nat):Int)*65536)=((c2.toNat*2 ^ 16:Nat):Int):=by rw[wrap32 (by omega) (by omega)];omega
 have w24:TK .u32 (((c3.toNat:Nat):Int)*16777216)=((c3.toNat*2 ^ 24:Nat):Int):=by rw[wrap32 (by omega) (by omega)];omega
 rw[p8,p16,p24,w0,w0,w0,w0,w8,w16,w24,Ms (by omega) (by omega),Nat.or_comm,Es 8 (by omega),Ms (by omega) (by omega),Nat.or_comm,Es 16 (by omega),Ms (by omega) (by omega),Nat.or_comm,Es 24 (by omega)]
 simp only[leN]
 omega
theorem GI {s:Bs} {n:Int} (h:sT s= .error n):s.length<4∧n=10:=by
 match s,h with
 |[],h=>cases h;exact⟨by simp,rfl⟩
 |[_],h=>cases h;exact⟨by simp,rfl⟩
 |[_,_],h=>cases h;exact⟨by simp,rfl⟩
 |[_,_,_],h=>cases h;exact⟨by simp,rfl⟩
theorem Et (b:Bs) (a a' :Nat) (e e' :Er) (c0 c1 c2 c3:UInt8) (ht:Ret 46 [.ref 0 0, .int .i64 (4:Int)] [rdS b a e] (.lst 5 false (ofBytes [c0,c1,c2,c3]),[rdS b a' e'])):
  Ret 24 [.ref 0 0] [rdS b a e] (Mt (leN [c0,c1,c2,c3]),[rdS b a' e']):=by
 have g0:V.getI (Ul (ofBytes [c0,c1,c2,c3]) (TO (0:Int)) .bot)=((c0.toNat:Nat):Int):=rfl
 have g1:V.getI (Ul (ofBytes [c0,c1,c2,c3]) (TO (1:Int)) .bot)=((c1.toNat:Nat):Int):=rfl
 have g2:V.getI (Ul (ofBytes [c0,c1,c2,c3]) (TO (2:Int)) .bot)=((c2.toNat:Nat):Int):=rfl
 have g3:V.getI (Ul (ofBytes [c0,c1,c2,c3]) (TO (3:Int)) .bot)=((c3.toNat:Nat):Int):=rfl
 have l4:(((ofBytes [c0,c1,c2,c3]).length:Nat):Int)=4:=rfl
 cases e with
 |none=>
  refine M24 (ofBytes b) ((a:Nat):Int) true 0 .bot ?_
  simp only[T24]
  refine aB ht ?_
  simp only[bM,l4,g0,g1,g2,g3,cK,cL,cM,bB,GH,aI (show(0:Int)≤0 by decide),aI (show(0:Int)<4 by decide),aI (show(0:Int)≤1 by decide),aI (show(1:Int)<4 by decide),aI (show(0:Int)≤8 by decide),aI (show(0:Int)≤2 by decide),aI (show(2:Int)<4 by decide),aI (show(0:Int)≤16 by decide),aI (show(0:Int)≤3 by decide),aI (show(3:Int)<4 by decide),aI (show(0:Int)≤24 by decide)]
  exact aD _
 |some p=>
  refine M24 (ofBytes b) ((a:Nat):Int) false 110 (.cpt [.int .i64 ((p.1:Nat):Int), .ifc 32 (.int .i64 p.2)]) ?_
  simp only[T24]
  refine aB ht ?_
  simp only[bM,l4,g0,g1,g2,g3,cK,cL,cM,bB,GH,aI (show(0:Int)≤0 by decide),aI (show(0:Int)<4 by decide),aI (show(0:Int)≤1 by decide),aI (show(1:Int)<4 by decide),aI (show(0:Int)≤8 by decide),aI (show(0:Int)≤2 by decide),aI (show(2:Int)<4 by decide),aI (show(0:Int)≤16 by decide),aI (show(0:Int)≤3 by decide),aI (show(3:Int)<4 by decide),aI (show(0:Int)≤24 by decide)]
  exact aD _
theorem I7 (b:Bs) (hb:b.length≤1000000000) (a:Nat) (ha:a≤b.length):RdF 24 [] b a sT Mt:=by
 refine⟨fun v r h=>?_,fun n h=>?_⟩
 ·match hd:b.drop a,h with
  |c0::c1::c2::c3::r',h=>
   cases h
   have hl:=congrArg US hd
   rw[Uv]at hl
   simp only[Ua]at hl
   have ht:=I6 b hb a 4 (by omega) (by omega)
   have e1:(b.drop a).take 4=[c0,c1,c2,c3]:=by rw[hd];rfl
   rw[e1]at ht
   refine⟨a+4,by omega,by omega,?_,Et b a _ _ _ c0 c1 c2 c3 ht⟩
   rw[←List.drop_drop,hd];rfl
 ·obtain⟨hl,rfl⟩:=GI h
  rw[Uv]at hl
  exact⟨_,a,(a,10),rfl,Et b a _ _ _ 0 0 0 0 (Bw b hb a 4 (by omega) ha (by omega))⟩
theorem Mv (b:Bs):RdE 24 [] b:=fun a p=>⟨_,Et b a _ _ _ 0 0 0 0 (GF b a 4 (by omega) p)⟩
theorem Mw (b:Bs) (at_:Int):RdE 47 [.int .i64 at_] b:=by
 intro a p
 obtain⟨v,hv⟩:=vM b a p
 refine⟨.agg [.int .i64 (TK .i64 (at_+getI v)), .int .i64 (TK .i64 (TK .i64 (at_+getI v)+getI v))],?_⟩
 refine M47 (ofBytes b) ((a:Nat):Int) false 110 (.cpt [.int .i64 ((p.1:Nat):Int), .ifc 32 (.int .i64 p.2)]) at_ ?_
 simp only[T47]
 refine aB hv ?_
 simp only[cK,cL,cM,bB]
 refine aB hv ?_
 simp only[cK,cL,cM,bB]
 exact aD _
theorem I8 (b:Bs) (hb:b.length≤1000000) (a:Nat) (ha:a≤b.length) (at_:Nat) (hat:at_+1099511627776* (b.length - a)≤4611686018427387904):RdF 47 [.int .i64 ((at_:Nat):Int)] b a (iF at_) cutV:=by
 obtain⟨n1,n2⟩:=nE b (by omega) a ha
 have start:∀{res:V×List Ob},Evt (fun k _=>T47 (aA cfg k) (ofBytes b) ((a:Nat):Int) true 0 .bot ((at_:Nat):Int)) res→Ret 47 [.ref 0 0, .int .i64 ((at_:Nat):Int)] [rdS b a none] res:=
  fun h=>M47 (ofBytes b) ((a:Nat):Int) true 0 .bot ((at_:Nat):Int) h
 refine⟨fun v r h=>?_,fun n h=>?_⟩
 ·obtain⟨x,r1,h1,h2⟩:=bJ h
  obtain⟨y,r2,h3,h4⟩:=bJ h2
  cases h4
  obtain⟨a1,g1,g2,g3,g4⟩:=n1 x r1 h1
  rw[g3]at h3
  obtain⟨a2,k1,k2,k3,k4⟩:=(nE b (by omega) a1 g2).1 y r h3
  have hx:=mS h1
  have hy:=mS h3
  have q1:=dY _ _ _ h1
  have q2:=dY _ _ _ h3
  rw[g3,Uv,Uv]at q1
  rw[Uv]at q2
  have w1:TK .i64 (((at_:Nat):Int)+((x:Nat):Int))=((at_+x:Nat):Int):=by rw[wrap64 (by omega) (by omega)];omega
  have w2:TK .i64 (((at_+x:Nat):Int)+((y:Nat):Int))=((at_+x+y:Nat):Int):=by rw[wrap64 (by omega) (by omega)];omega
  refine⟨a2,by omega,k2,k3,start ?_⟩
  simp only[T47]
  refine aB g4 ?_
  simp only[cK,cL,cM,bB]
  refine aB k4 ?_
  simp only[cK,cL,cM,bB,Kj,dF,w1,w2]
  exact aD _
 ·cases hp:lU (b.drop a)with
  |error m=>
   rw[iF,cA hp]at h
   cases h
   obtain⟨v,a',p,e1,g⟩:=n2 n hp
   obtain⟨v2,g2⟩:=vM b a' p
   refine⟨?_,a',p,e1,start ?_⟩
   rotate_left
   ·simp only[T47]
    refine aB g ?_
    simp only[cK,cL,cM,bB]
    refine aB g2 ?_
    simp only[cK,cL,cM,bB]
    exact aD _
  |ok w=>
   obtain⟨x,r1⟩:=w
   rw[iF,aZ hp]at h
   obtain⟨a1,g1,g2,g3,g4⟩:=n1 x r1 hp
   cases hq:lU r1 with
   |ok w=>rw[aZ hq]at h;cases h
   |error m=>
    rw[cA hq]at h
    cases h
    rw[g3]at hq
    obtain⟨v,a',p,e1,g⟩:=(nE b (by omega) a1 g2).2 n hq
    refine⟨?_,a',p,e1,start ?_⟩
    rotate_left
    ·simp only[T47]
     refine aB g4 ?_
     simp only[cK,cL,cM,bB]
     refine aB g ?_
     simp only[cK,cL,cM,bB]
     exact aD _
end Go.Proofs.YtgpofjbdjiajeaaGreatDoor
end
