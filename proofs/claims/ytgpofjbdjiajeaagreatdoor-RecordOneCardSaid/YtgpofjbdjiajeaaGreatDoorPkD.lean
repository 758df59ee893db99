/- Lemmas for the claim, merged: the plain reading of the program's functions, its soundness, and what they compute. -/
import Derived.Test.YtgpofjbdjiajeaaGreatDoorPkC
import Derived.Test.YtgpofjbdjiajeaaGreatDoorProg
import Derived.KernelRfl
import Derived.Lib.Split
import Derived.Lib.Walk
import Derived.Lib.Strings
import Derived.Lib.Bytealg
import Derived.Lib.CutLaws
import Derived.Lib.ConvBytes
import Derived.Laws.Strings3
import Derived.WalkKit
import Derived.Deep.OwnRows
import Derived.Deep.LoopGhost
import Derived.Deep.Light
import Derived.RangeFuncGives
import Derived.RangeFuncBox
import Derived.RangeFuncLeaves
import Derived.Shelf.Abstract
import Derived.OwnWalkIn
import Derived.TacticsInMore
import Derived.LoopNIn
import Derived.LoopIn
import Derived.Maps.RangeWalk
import Derived.Lib.IndexLaws
import Derived.Shelf.RegionOpenPlain
import Derived.Lib.Slices
import Derived.Lib.Builder
import Derived.Lib.AppendStr
import Derived.Lib.UnsafeStr
import Derived.Laws.Externs
import Derived.Laws.BitsLemmas
import Derived.ProofKit
import Derived.OpenShut
import Derived.Deep.DeepHandedRow
import Derived.LaidEql
import Derived.Stop.Asserts
import Derived.RowKitTokens
open List renaming append_assoc→Ud,append_toArray→VD,cons_append→UA,count_pos_iff→UQ,drop→Wb,drop_eq_getElem_cons→UM,drop_eq_nil_of_le→UB,drop_zero→U7,eq_nil_of_length_eq_zero→Ue,ext_getElem?→UK,foldl_cons→V9,getD→Ul,getD_eq_getElem?_getD→Ur,getElem?_append_left→TU,getElem?_append_right→Ub,getElem?_drop→UN,getElem?_eq_getElem→TP,getElem?_eq_none→Ut,getElem?_eq_some_iff→TQ,getElem?_map→UC,getElem?_take→Uw,headD_cons→Uc,length→US,length_append→Ug,length_cons→Ua,length_drop→Uv,length_map→Ui,length_nil→Uh,length_pos_iff→U6,length_take→Vo,map_cons→UE,mem_append→TV,mem_cons→UH,mem_of_getElem?→Uu,nil_append→UV,push_toArray→VO,set_cons_succ→VG,set_cons_zero→V5,size_toArray→Vj,take_add_one→VE,take_append_drop→U9,take_length→Wj
open Int renaming cast_ofNat_Int→V6
open Nat renaming add_assoc→Vf,add_mul→Vh,add_zero→U2,le_refl→TY,le_trans→Uy,lt_irrefl→Wg,lt_of_lt_of_le→Up,lt_or_ge→VM,mul_le_mul_right→Vi,reduceAdd→Wh,reduceSub→Wi,zero_add→UD,zero_le→Wd
open Bool renaming and_eq_true→TR
open Option renaming getD_some→Vg,map_eq_some_iff→UG
open Array renaming getElem?_eq_getElem→Uj,getElem?_eq_none→Vk,getElem?_eq_some_iff→TX,getElem?_modify→Vs,replicate_succ→Vv,replicate_zero→Vw
open UInt8 renaming ofNat→Uo,toNat_inj→Wc
open Go.IntKind renaming i64→TM,u8→UT
set_option linter.all false
set_option linter.unusedVariables false
set_option linter.unusedSimpArgs false
section
namespace Go.Proofs.YtgpofjbdjiajeaaGreatDoor
open Go.Ev Go.Proofs
noncomputable def P9:List (Option Ty):=[
 none,
 some ⟨Tryz.t1.desc,1,8,false,[CSh.other],[V.raw .nilFunc],false⟩,
 some ⟨Tryz.t2.desc,1,8,false,[CSh.int .i64],[V.int .i64 0],true⟩,
 some ⟨Tryz.t3.desc,1,8,false,[CSh.int .i64],[V.int .i64 0],true⟩,
 some ⟨Tryz.t4.desc,1,1,false,[CSh.bool],[V.bool false],true⟩,
 some ⟨Tryz.t5.desc,1,1,false,[CSh.int .u8],[V.int .u8 0],true⟩,
 some ⟨Tryz.t5.desc,1,1,false,[CSh.int .u8],[V.int .u8 0],true⟩,
 some ⟨Tryz.t7.desc,4,24,true,[CSh.int .i64,CSh.int .i64,CSh.bool,CSh.int .u8],[V.int .i64 0,V.int .i64 0,V.bool false,V.int .u8 0],false⟩,
 some ⟨Tryz.t7.desc,4,24,true,[CSh.int .i64,CSh.int .i64,CSh.bool,CSh.int .u8],[V.int .i64 0,V.int .i64 0,V.bool false,V.int .u8 0],false⟩,
 some ⟨Tryz.t9.desc,1,16,false,[CSh.str],[V.str []],true⟩,
 some ⟨Tryz.t9.desc,1,16,false,[CSh.str],[V.str []],true⟩,
 some ⟨Tryz.t9.desc,1,16,false,[CSh.str],[V.str []],true⟩,
 some ⟨Tryz.t12.desc,1,8,false,[CSh.int .u64],[V.int .u64 0],true⟩,
 some ⟨Tryz.t13.desc,2,24,true,[CSh.str,CSh.int .u64],[V.str [],V.int .u64 0],false⟩,
 some ⟨Tryz.t13.desc,2,24,true,[CSh.str,CSh.int .u64],[V.str [],V.int .u64 0],false⟩,
 some ⟨Tryz.t15.desc,1,8,false,[CSh.other],[V.raw (.pointer none)],false⟩]
noncomputable def Qa:List (Option Ty):=[
 some ⟨Tryz.t16.desc,1,8,false,[CSh.other],[V.raw (.pointer none)],false⟩,
 some ⟨Tryz.t17.desc,1,8,false,[CSh.other],[V.raw (.pointer none)],false⟩,
 some ⟨Tryz.t18.desc,1,8,true,[CSh.other],[V.raw (.pointer none)],false⟩,
 some ⟨Tryz.t18.desc,1,8,true,[CSh.other],[V.raw (.pointer none)],false⟩,
 some ⟨Tryz.t20.desc,1,16,false,[CSh.ifc],[V.raw .nilIface],false⟩,
 some ⟨Tryz.t21.desc,1,4,false,[CSh.int .i32],[V.int .i32 0],true⟩,
 some ⟨Tryz.t22.desc,1,24,false,[CSh.lst 5 false],[V.lst 5 true []],false⟩,
 some ⟨Tryz.t23.desc,1,2,false,[CSh.int .u16],[V.int .u16 0],true⟩,
 some ⟨Tryz.t24.desc,1,4,false,[CSh.int .u32],[V.int .u32 0],true⟩,
 some ⟨Tryz.t25.desc,1,8,false,[CSh.other],[V.raw .nilFunc],false⟩,
 some ⟨Tryz.t26.desc,2,16,true,[CSh.int .i64,CSh.int .i64],[V.int .i64 0,V.int .i64 0],false⟩,
 some ⟨Tryz.t26.desc,2,16,true,[CSh.int .i64,CSh.int .i64],[V.int .i64 0,V.int .i64 0],true⟩,
 some ⟨Tryz.t28.desc,1,24,false,[CSh.lst 31 false],[V.lst 31 true []],false⟩,
 some ⟨Tryz.t29.desc,1,24,false,[CSh.lst 27 false],[V.lst 27 true []],false⟩,
 some ⟨Tryz.t30.desc,9,104,true,[CSh.int .i64,CSh.int .i64,CSh.int .i64,CSh.int .i64,CSh.int .i64,CSh.lst 31 false,CSh.lst 27 false,CSh.int .i64,CSh.int .i64],[V.int .i64 0,V.int .i64 0,V.int .i64 0,V.int .i64 0,V.int .i64 0,V.lst 31 true [],V.lst 27 true [],V.int .i64 0,V.int .i64 0],false⟩,
 some ⟨Tryz.t30.desc,9,104,true,[CSh.int .i64,CSh.int .i64,CSh.int .i64,CSh.int .i64,CSh.int .i64,CSh.lst 31 false,CSh.lst 27 false,CSh.int .i64,CSh.int .i64],[V.int .i64 0,V.int .i64 0,V.int .i64 0,V.int .i64 0,V.int .i64 0,V.lst 31 true [],V.lst 27 true [],V.int .i64 0,V.int .i64 0],false⟩]
noncomputable def Qb:List (Option Ty):=[
 some ⟨Tryz.t3.desc,1,8,false,[CSh.int .i64],[V.int .i64 0],true⟩,
 none,
 some ⟨Tryz.t34.desc,1,8,false,[CSh.other],[V.raw .nilFunc],false⟩,
 none,
 some ⟨Tryz.t36.desc,1,8,false,[CSh.other],[V.raw .nilFunc],false⟩,
 some ⟨Tryz.t37.desc,1,8,false,[CSh.other],[V.raw .nilFunc],false⟩,
 some ⟨Tryz.t38.desc,1,24,false,[CSh.lst 40 false],[V.lst 40 true []],false⟩,
 some ⟨Tryz.t39.desc,9,104,true,[CSh.int .i64,CSh.int .i64,CSh.int .i64,CSh.int .i64,CSh.int .i64,CSh.lst 40 false,CSh.lst 27 false,CSh.int .i64,CSh.int .i64],[V.int .i64 0,V.int .i64 0,V.int .i64 0,V.int .i64 0,V.int .i64 0,V.lst 40 true [],V.lst 27 true [],V.int .i64 0,V.int .i64 0],false⟩,
 some ⟨Tryz.t39.desc,9,104,true,[CSh.int .i64,CSh.int .i64,CSh.int .i64,CSh.int .i64,CSh.int .i64,CSh.lst 40 false,CSh.lst 27 false,CSh.int .i64,CSh.int .i64],[V.int .i64 0,V.int .i64 0,V.int .i64 0,V.int .i64 0,V.int .i64 0,V.lst 40 true [],V.lst 27 true [],V.int .i64 0,V.int .i64 0],false⟩,
 none,
 some ⟨Tryz.t42.desc,1,8,false,[CSh.other],[V.raw .nilFunc],false⟩,
 some ⟨Tryz.t43.desc,1,8,false,[CSh.other],[V.raw .nilFunc],false⟩,
 some ⟨Tryz.t44.desc,1,8,false,[CSh.other],[V.raw .nilFunc],false⟩,
 some ⟨Tryz.t45.desc,1,8,false,[CSh.int .u64],[V.int .u64 0],true⟩,
 some ⟨Tryz.t46.desc,1,8,false,[CSh.other],[V.raw .nilFunc],false⟩,
 some ⟨Tryz.t47.desc,1,8,false,[CSh.other],[V.raw .nilFunc],false⟩]
noncomputable def Qc:List (Option Ty):=[
 some ⟨Tryz.t48.desc,1,8,false,[CSh.other],[V.raw .nilFunc],false⟩,
 some ⟨Tryz.t49.desc,1,8,false,[CSh.other],[V.raw .nilFunc],false⟩,
 none,
 some ⟨Tryz.t51.desc,1,8,false,[CSh.other],[V.raw .nilFunc],false⟩,
 some ⟨Tryz.t52.desc,1,8,false,[CSh.other],[V.raw (.pointer none)],false⟩,
 some ⟨Tryz.t53.desc,2,32,true,[CSh.lst 5 false,CSh.int .i64],[V.lst 5 true [],V.int .i64 0],false⟩,
 some ⟨Tryz.t53.desc,2,32,true,[CSh.lst 5 false,CSh.int .i64],[V.lst 5 true [],V.int .i64 0],false⟩,
 some ⟨Tryz.t55.desc,1,8,false,[CSh.other],[V.raw .nilFunc],false⟩,
 some ⟨Tryz.t56.desc,1,8,false,[CSh.other],[V.raw .nilFunc],false⟩,
 some ⟨Tryz.t57.desc,1,8,false,[CSh.other],[V.raw .nilFunc],false⟩,
 some ⟨Tryz.t58.desc,1,8,false,[CSh.other],[V.raw .nilFunc],false⟩,
 some ⟨Tryz.t59.desc,1,8,false,[CSh.other],[V.raw .nilFunc],false⟩,
 some ⟨Tryz.t60.desc,1,8,false,[CSh.other],[V.raw .nilFunc],false⟩,
 some ⟨Tryz.t61.desc,1,8,false,[CSh.other],[V.raw (.pointer none)],false⟩,
 none,
 some ⟨Tryz.t63.desc,1,8,false,[CSh.other],[V.raw .nilFunc],false⟩]
noncomputable def Qd:List (Option Ty):=[
 some ⟨Tryz.t64.desc,1,8,false,[CSh.other],[V.raw .nilFunc],false⟩,
 some ⟨Tryz.t65.desc,1,16,false,[CSh.ifc],[V.raw .nilIface],false⟩,
 some ⟨Tryz.t65.desc,1,16,false,[CSh.ifc],[V.raw .nilIface],false⟩,
 some ⟨Tryz.t67.desc,3,48,true,[CSh.lst 5 false,CSh.int .i64,CSh.ifc],[V.lst 5 true [],V.int .i64 0,V.raw .nilIface],false⟩,
 some ⟨Tryz.t67.desc,3,48,true,[CSh.lst 5 false,CSh.int .i64,CSh.ifc],[V.lst 5 true [],V.int .i64 0,V.raw .nilIface],false⟩,
 some ⟨Tryz.t69.desc,1,8,false,[CSh.other],[V.raw .nilFunc],false⟩,
 some ⟨Tryz.t70.desc,1,8,false,[CSh.other],[V.raw .nilFunc],false⟩,
 some ⟨Tryz.t71.desc,1,8,false,[CSh.other],[V.raw .nilFunc],false⟩,
 some ⟨Tryz.t72.desc,1,8,false,[CSh.other],[V.raw .nilFunc],false⟩,
 some ⟨Tryz.t73.desc,2,24,true,[CSh.str,CSh.int .i64],[V.str [],V.int .i64 0],false⟩,
 some ⟨Tryz.t73.desc,2,24,true,[CSh.str,CSh.int .i64],[V.str [],V.int .i64 0],true⟩,
 none,
 some ⟨Tryz.t76.desc,1,8,false,[CSh.other],[V.raw .nilFunc],false⟩,
 none,
 some ⟨Tryz.t78.desc,1,8,false,[CSh.other],[V.raw .nilFunc],false⟩,
 some ⟨Tryz.t79.desc,1,8,false,[CSh.other],[V.raw .nilFunc],false⟩]
noncomputable def Qe:List (Option Ty):=[
 some ⟨Tryz.t80.desc,1,8,false,[CSh.int .u64],[V.int .u64 0],true⟩,
 some ⟨Tryz.t81.desc,1,8,false,[CSh.other],[V.raw .nilFunc],false⟩,
 none,
 some ⟨Tryz.t83.desc,1,8,false,[CSh.other],[V.raw .nilFunc],false⟩,
 some ⟨Tryz.t84.desc,1,8,false,[CSh.other],[V.raw .nilFunc],false⟩,
 some ⟨Tryz.t85.desc,1,8,false,[CSh.other],[V.raw .nilFunc],false⟩,
 some ⟨Tryz.t86.desc,1,24,false,[CSh.lst 133 false],[V.lst 133 true []],false⟩,
 none,
 some ⟨Tryz.t88.desc,1,8,false,[CSh.other],[V.raw .nilFunc],false⟩,
 some ⟨Tryz.t89.desc,1,24,false,[CSh.lst 140 false],[V.lst 140 true []],false⟩,
 some ⟨Tryz.t90.desc,3,56,true,[CSh.str,CSh.str,CSh.lst 140 false],[V.str [],V.str [],V.lst 140 true []],false⟩,
 some ⟨Tryz.t90.desc,3,56,true,[CSh.str,CSh.str,CSh.lst 140 false],[V.str [],V.str [],V.lst 140 true []],false⟩,
 some ⟨Tryz.t92.desc,1,8,false,[CSh.other],[V.raw .nilFunc],false⟩,
 none,
 some ⟨Tryz.t94.desc,1,8,false,[CSh.other],[V.raw .nilFunc],false⟩,
 none]
noncomputable def Qf:List (Option Ty):=[
 some ⟨Tryz.t96.desc,1,8,false,[CSh.other],[V.raw .nilFunc],false⟩,
 some ⟨Tryz.t97.desc,1,8,false,[CSh.other],[V.raw .nilFunc],false⟩,
 some ⟨Tryz.t98.desc,1,8,false,[CSh.other],[V.raw (.pointer none)],false⟩,
 some ⟨Tryz.t99.desc,1,8,false,[CSh.other],[V.raw .nilFunc],false⟩,
 some ⟨Tryz.t100.desc,1,8,false,[CSh.other],[V.raw .nilFunc],false⟩,
 some ⟨Tryz.t101.desc,1,8,false,[CSh.other],[V.raw .nilFunc],false⟩,
 some ⟨Tryz.t102.desc,1,8,false,[CSh.other],[V.raw .nilFunc],false⟩,
 some ⟨Tryz.t103.desc,1,8,false,[CSh.other],[V.raw .nilFunc],false⟩,
 some ⟨Tryz.t103.desc,1,8,false,[CSh.other],[V.raw .nilFunc],false⟩,
 some ⟨Tryz.t105.desc,1,8,false,[CSh.other],[V.raw .nilFunc],false⟩,
 some ⟨Tryz.t106.desc,3,24,true,[CSh.int .i64,CSh.int .i64,CSh.int .i64],[V.int .i64 0,V.int .i64 0,V.int .i64 0],false⟩,
 some ⟨Tryz.t106.desc,3,24,true,[CSh.int .i64,CSh.int .i64,CSh.int .i64],[V.int .i64 0,V.int .i64 0,V.int .i64 0],true⟩,
 some ⟨Tryz.t108.desc,1,8,false,[CSh.other],[V.raw .nilFunc],false⟩,
 some ⟨Tryz.t109.desc,1,8,false,[CSh.other],[V.raw .nilFunc],false⟩,
 some ⟨Tryz.t110.desc,1,8,false,[CSh.other],[V.raw (.pointer none)],false⟩,
 some ⟨Tryz.t111.desc,2,24,true,[CSh.int .i64,CSh.ifc],[V.int .i64 0,V.raw .nilIface],false⟩]
noncomputable def Qg:List (Option Ty):=[
 some ⟨Tryz.t111.desc,2,24,true,[CSh.int .i64,CSh.ifc],[V.int .i64 0,V.raw .nilIface],false⟩,
 some ⟨Tryz.t113.desc,1,8,false,[CSh.other],[V.raw .nilFunc],false⟩,
 some ⟨Tryz.t114.desc,1,8,false,[CSh.other],[V.raw .nilFunc],false⟩,
 some ⟨Tryz.t115.desc,1,8,false,[CSh.other],[V.raw (.pointer none)],false⟩,
 some ⟨Tryz.t116.desc,1,8,false,[CSh.other],[V.raw (.pointer none)],false⟩,
 some ⟨Tryz.t117.desc,1,8,false,[CSh.other],[V.raw .nilFunc],false⟩,
 none,
 some ⟨Tryz.t119.desc,1,8,false,[CSh.other],[V.raw .nilFunc],false⟩,
 some ⟨Tryz.t120.desc,1,8,false,[CSh.other],[V.raw .nilFunc],false⟩,
 some ⟨Tryz.t121.desc,1,8,false,[CSh.other],[V.raw .nilFunc],false⟩,
 some ⟨Tryz.t122.desc,1,24,false,[CSh.lst 124 false],[V.lst 124 true []],false⟩,
 some ⟨Tryz.t123.desc,1,8,false,[CSh.other],[V.raw .nilFunc],false⟩,
 some ⟨Tryz.t106.desc,3,24,true,[CSh.int .i64,CSh.int .i64,CSh.int .i64],[V.int .i64 0,V.int .i64 0,V.int .i64 0],true⟩,
 some ⟨Tryz.t125.desc,1,24,false,[CSh.lst 128 false],[V.lst 128 true []],false⟩,
 some ⟨Tryz.t126.desc,1,8,false,[CSh.other],[V.raw .nilFunc],false⟩,
 some ⟨Tryz.t127.desc,3,24,true,[CSh.int .i64,CSh.int .i64,CSh.int .i64],[V.int .i64 0,V.int .i64 0,V.int .i64 0],false⟩]
noncomputable def Qh:List (Option Ty):=[
 some ⟨Tryz.t127.desc,3,24,true,[CSh.int .i64,CSh.int .i64,CSh.int .i64],[V.int .i64 0,V.int .i64 0,V.int .i64 0],true⟩,
 some ⟨Tryz.t129.desc,1,8,false,[CSh.other],[V.raw .nilFunc],false⟩,
 some ⟨Tryz.t130.desc,1,8,false,[CSh.other],[V.raw .nilFunc],false⟩,
 some ⟨Tryz.t131.desc,1,8,false,[CSh.other],[V.raw .nilFunc],false⟩,
 some ⟨Tryz.t132.desc,4,40,true,[CSh.str,CSh.int .i64,CSh.int .i64,CSh.int .i64],[V.str [],V.int .i64 0,V.int .i64 0,V.int .i64 0],false⟩,
 some ⟨Tryz.t132.desc,4,40,true,[CSh.str,CSh.int .i64,CSh.int .i64,CSh.int .i64],[V.str [],V.int .i64 0,V.int .i64 0,V.int .i64 0],true⟩,
 none,
 some ⟨Tryz.t135.desc,1,8,false,[CSh.other],[V.raw .nilFunc],false⟩,
 none,
 some ⟨Tryz.t137.desc,1,8,false,[CSh.other],[V.raw .nilFunc],false⟩,
 some ⟨Tryz.t138.desc,1,8,false,[CSh.other],[V.raw .nilFunc],false⟩,
 some ⟨Tryz.t139.desc,2,32,true,[CSh.str,CSh.str],[V.str [],V.str []],false⟩,
 some ⟨Tryz.t139.desc,2,32,true,[CSh.str,CSh.str],[V.str [],V.str []],true⟩,
 some ⟨Tryz.t141.desc,1,8,false,[CSh.other],[V.raw .nilFunc],false⟩,
 none,
 some ⟨Tryz.t143.desc,1,8,false,[CSh.other],[V.raw .nilFunc],false⟩]
noncomputable def Qi:List (Option Ty):=[
 none,
 some ⟨Tryz.t145.desc,1,8,false,[CSh.other],[V.raw .nilFunc],false⟩,
 some ⟨Tryz.t146.desc,1,8,false,[CSh.other],[V.raw .nilFunc],false⟩,
 some ⟨Tryz.t147.desc,1,8,false,[CSh.other],[V.raw .nilFunc],false⟩,
 some ⟨Tryz.t148.desc,1,8,false,[CSh.other],[V.raw .nilFunc],false⟩,
 some ⟨Tryz.t149.desc,1,8,false,[CSh.other],[V.raw .nilFunc],false⟩,
 some ⟨Tryz.t150.desc,16,64,true,[CSh.int .u32,CSh.int .u32,CSh.int .u32,CSh.int .u32,CSh.int .u32,CSh.int .u32,CSh.int .u32,CSh.int .u32,CSh.int .u32,CSh.int .u32,CSh.int .u32,CSh.int .u32,CSh.int .u32,CSh.int .u32,CSh.int .u32,CSh.int .u32],[V.int .u32 0,V.int .u32 0,V.int .u32 0,V.int .u32 0,V.int .u32 0,V.int .u32 0,V.int .u32 0,V.int .u32 0,V.int .u32 0,V.int .u32 0,V.int .u32 0,V.int .u32 0,V.int .u32 0,V.int .u32 0,V.int .u32 0,V.int .u32 0],false⟩,
 some ⟨Tryz.t151.desc,1,8,false,[CSh.other],[V.raw .nilFunc],false⟩,
 some ⟨Tryz.t152.desc,2,8,true,[CSh.int .u32,CSh.int .u32],[V.int .u32 0,V.int .u32 0],false⟩,
 some ⟨Tryz.t153.desc,1,8,false,[CSh.other],[V.raw (.pointer none)],false⟩,
 some ⟨Tryz.t12.desc,1,8,false,[CSh.int .u64],[V.int .u64 0],true⟩,
 some ⟨Tryz.t155.desc,3,24,true,[CSh.other,CSh.other,CSh.int .u64],[V.raw (.pointer none),V.raw (.pointer none),V.int .u64 0],false⟩,
 some ⟨Tryz.t155.desc,3,24,true,[CSh.other,CSh.other,CSh.int .u64],[V.raw (.pointer none),V.raw (.pointer none),V.int .u64 0],false⟩,
 some ⟨Tryz.t157.desc,1,8,false,[CSh.other],[V.raw .nilFunc],false⟩,
 some ⟨Tryz.t158.desc,1,16,false,[CSh.ifc],[V.raw .nilIface],false⟩,
 some ⟨Tryz.t158.desc,1,16,false,[CSh.ifc],[V.raw .nilIface],false⟩]
noncomputable def N9:List (Option Ty):=[
 some ⟨Tryz.t160.desc,1,8,false,[CSh.other],[V.raw .nilFunc],false⟩,
 some ⟨Tryz.t5.desc,1,1,false,[CSh.int .u8],[V.int .u8 0],true⟩,
 some ⟨Tryz.t162.desc,1,8,false,[CSh.other],[V.raw .nilFunc],false⟩,
 some ⟨Tryz.t163.desc,1,8,false,[CSh.other],[V.raw .nilFunc],false⟩,
 some ⟨Tryz.t164.desc,1,8,false,[CSh.other],[V.raw .nilFunc],false⟩,
 some ⟨Tryz.t165.desc,1,8,false,[CSh.other],[V.raw .nilFunc],false⟩,
 some ⟨Tryz.t166.desc,1,8,false,[CSh.other],[V.raw .nilFunc],false⟩,
 some ⟨Tryz.t167.desc,1,8,false,[CSh.other],[V.raw .nilFunc],false⟩,
 some ⟨Tryz.t167.desc,1,8,false,[CSh.other],[V.raw .nilFunc],false⟩,
 some ⟨Tryz.t169.desc,1,8,false,[CSh.other],[V.raw .nilFunc],false⟩,
 some ⟨Tryz.t170.desc,1,8,false,[CSh.other],[V.raw .nilFunc],false⟩,
 some ⟨Tryz.t171.desc,1,8,false,[CSh.other],[V.raw .nilFunc],false⟩,
 some ⟨Tryz.t172.desc,1,8,false,[CSh.other],[V.raw .nilFunc],false⟩,
 some ⟨Tryz.t173.desc,1,8,false,[CSh.other],[V.raw .nilFunc],false⟩,
 some ⟨Tryz.t174.desc,1,8,false,[CSh.other],[V.raw (.pointer none)],false⟩,
 some ⟨Tryz.t175.desc,1,16,true,[CSh.str],[V.str []],false⟩]
noncomputable def Oa:List (Option Ty):=[
 some ⟨Tryz.t175.desc,1,16,true,[CSh.str],[V.str []],true⟩,
 some ⟨Tryz.t177.desc,1,8,true,[CSh.other],[V.raw (.pointer none)],false⟩,
 some ⟨Tryz.t177.desc,1,8,true,[CSh.other],[V.raw (.pointer none)],false⟩,
 some ⟨Tryz.t179.desc,1,8,false,[CSh.other],[V.raw .nilFunc],false⟩,
 some ⟨Tryz.t180.desc,1,8,false,[CSh.other],[V.raw .nilFunc],false⟩,
 some ⟨Tryz.t181.desc,1,8,false,[CSh.other],[V.raw (.map none)],false⟩,
 none,
 some ⟨Tryz.t183.desc,1,8,false,[CSh.other],[V.raw .nilFunc],false⟩,
 some ⟨Tryz.t184.desc,1,8,false,[CSh.other],[V.raw .nilFunc],false⟩,
 some ⟨Tryz.t185.desc,1,8,false,[CSh.other],[V.raw .nilFunc],false⟩,
 some ⟨Tryz.t186.desc,1,8,false,[CSh.other],[V.raw .nilFunc],false⟩,
 some ⟨Tryz.t187.desc,1,8,false,[CSh.other],[V.raw .nilFunc],false⟩,
 some ⟨Tryz.t188.desc,1,8,false,[CSh.other],[V.raw (.pointer none)],false⟩,
 some ⟨Tryz.t189.desc,2,32,true,[CSh.other,CSh.lst 5 false],[V.raw (.pointer none),V.lst 5 true []],false⟩,
 some ⟨Tryz.t189.desc,2,32,true,[CSh.other,CSh.lst 5 false],[V.raw (.pointer none),V.lst 5 true []],false⟩,
 none]
noncomputable def Oc:List (Option Ty):=[
 some ⟨Tryz.t192.desc,1,8,false,[CSh.other],[V.raw .nilFunc],false⟩,
 some ⟨Tryz.t193.desc,1,8,false,[CSh.other],[V.raw .nilFunc],false⟩,
 some ⟨Tryz.t194.desc,1,8,false,[CSh.other],[V.raw .nilFunc],false⟩,
 some ⟨Tryz.t195.desc,1,8,true,[CSh.other],[V.raw (.pointer none)],false⟩,
 some ⟨Tryz.t195.desc,1,8,true,[CSh.other],[V.raw (.pointer none)],false⟩,
 some ⟨Tryz.t197.desc,1,8,false,[CSh.other],[V.raw (.pointer none)],false⟩,
 some ⟨Tryz.t198.desc,1,8,false,[CSh.other],[V.raw .nilFunc],false⟩,
 some ⟨Tryz.t199.desc,1,8,false,[CSh.other],[V.raw .nilFunc],false⟩,
 some ⟨Tryz.t200.desc,1,8,false,[CSh.other],[V.raw .nilFunc],false⟩,
 some ⟨Tryz.t201.desc,1,16,false,[CSh.ifc],[V.raw .nilIface],false⟩,
 none,
 some ⟨Tryz.t203.desc,1,8,false,[CSh.other],[V.raw .nilFunc],false⟩,
 some ⟨Tryz.t204.desc,1,16,false,[CSh.ifc],[V.raw .nilIface],false⟩,
 some ⟨Tryz.t205.desc,1,8,false,[CSh.other],[V.raw .nilFunc],false⟩,
 some ⟨Tryz.t206.desc,1,16,false,[CSh.ifc],[V.raw .nilIface],false⟩,
 some ⟨Tryz.t207.desc,1,24,false,[CSh.lst 66 false],[V.lst 66 true []],false⟩]
noncomputable def Od:List (Option Ty):=[
 some ⟨Tryz.t208.desc,1,8,false,[CSh.other],[V.raw .nilFunc],false⟩,
 some ⟨Tryz.t209.desc,1,8,false,[CSh.other],[V.raw .nilFunc],false⟩,
 some ⟨Tryz.t210.desc,1,8,false,[CSh.other],[V.raw .nilFunc],false⟩,
 some ⟨Tryz.t211.desc,1,8,false,[CSh.other],[V.raw .nilFunc],false⟩,
 some ⟨Tryz.t212.desc,1,8,false,[CSh.other],[V.raw .nilFunc],false⟩,
 some ⟨Tryz.t213.desc,1,8,false,[CSh.other],[V.raw (.pointer none)],false⟩,
 some ⟨Tryz.t214.desc,1,8,false,[CSh.other],[V.raw .nilFunc],false⟩,
 some ⟨Tryz.t215.desc,1,8,false,[CSh.other],[V.raw .nilFunc],false⟩,
 none,
 some ⟨Tryz.t217.desc,1,8,false,[CSh.other],[V.raw .nilFunc],false⟩,
 some ⟨Tryz.t218.desc,1,24,false,[CSh.lst 9 false],[V.lst 9 true []],false⟩,
 some ⟨Tryz.t219.desc,1,8,false,[CSh.other],[V.raw .nilFunc],false⟩,
 some ⟨Tryz.t220.desc,1,8,false,[CSh.other],[V.raw .nilFunc],false⟩,
 some ⟨Tryz.t221.desc,1,8,false,[CSh.other],[V.raw .nilFunc],false⟩,
 some ⟨Tryz.t222.desc,1,8,false,[CSh.other],[V.raw .nilFunc],false⟩,
 some ⟨Tryz.t223.desc,1,8,false,[CSh.other],[V.raw .nilFunc],false⟩]
noncomputable def Oe:List (Option Ty):=[
 none,
 some ⟨Tryz.t225.desc,1,8,false,[CSh.other],[V.raw .nilFunc],false⟩,
 some ⟨Tryz.t226.desc,1,8,false,[CSh.other],[V.raw .nilFunc],false⟩,
 some ⟨Tryz.t227.desc,1,8,false,[CSh.other],[V.raw .nilFunc],false⟩,
 none,
 some ⟨Tryz.t229.desc,1,8,false,[CSh.other],[V.raw .nilFunc],false⟩,
 some ⟨Tryz.t230.desc,256,256,true,[CSh.int .u8,CSh.int .u8,CSh.int .u8,CSh.int .u8,CSh.int .u8,CSh.int .u8,CSh.int .u8,CSh.int .u8,CSh.int .u8,CSh.int .u8,CSh.int .u8,CSh.int .u8,CSh.int .u8,CSh.int .u8,CSh.int .u8,CSh.int .u8,CSh.int .u8,CSh.int .u8,CSh.int .u8,CSh.int .u8,CSh.int .u8,CSh.int .u8,CSh.int .u8,CSh.int .u8,CSh.int .u8,CSh.int .u8,CSh.int .u8,CSh.int .u8,CSh.int .u8,CSh.int .u8,CSh.int .u8,CSh.int .u8,CSh.int .u8,CSh.int .u8,CSh.int .u8,CSh.int .u8,CSh.int .u8,CSh.int .u8,CSh.int .u8,CSh.int .u8,CSh.int .u8,CSh.int .u8,CSh.int .u8,CSh.int .u8,CSh.int .u8,CSh.int .u8,CSh.int .u8,CSh.int .u8,CSh.int .u8,CSh.int .u8,CSh.int .u8,CSh.int .u8,CSh.int .u8,CSh.int .u8,CSh.int .u8,CSh.int .u8,CSh.int .u8,CSh.int .u8,CSh.int .u8,CSh.int .u8,CSh.int .u8,CSh.int .u8,CSh.int .u8,CSh.int .u8,CSh.int .u8,CSh.int .u8,CSh.int .u8,CSh.int .u8,CSh.int .u8,CSh.int .u8,CSh.int .u8,CSh.int .u8,CSh.int .u8,CSh.int .u8,CSh.int .u8,CSh.int .u8,CSh.int .u8,CSh.int .u8,CSh.int .u8,CSh.int .u8,CSh.int .u8,CSh.int .u8,CSh.int .u8,CSh.int .u8,CSh.int .u8,CSh.int .u8,CSh.int .u8,CSh.int .u8,CSh.int .u8,CSh.int .u8,CSh.int .u8,CSh.int .u8,CSh.int .u8,CSh.int .u8,CSh.int .u8,CSh.int .u8,CSh.int .u8,CSh.int .u8,CSh.int .u8,CSh.int .u8,CSh.int .u8,CSh.int .u8,CSh.int .u8,CSh.int .u8,CSh.int .u8,CSh.int .u8,CSh.int .u8,CSh.int .u8,CSh.int .u8,CSh.int .u8,CSh.int .u8,CSh.int .u8,CSh.int .u8,CSh.int .u8,CSh.int .u8,CSh.int .u8,CSh.int .u8,CSh.int .u8,CSh.int .u8,CSh.int .u8,CSh.int .u8,CSh.int .u8,CSh.int .u8,CSh.int .u8,CSh.int .u8,CSh.int .u8,CSh.int .u8,CSh.int .u8,CSh.int .u8,CSh.int .u8,CSh.int .u8,CSh.int .u8,CSh.int .u8,CSh.int .u8,CSh.int .u8,CSh.int .u8,CSh.int .u8,CSh.int .u8,CSh.int .u8,CSh.int .u8,CSh.int .u8,CSh.int .u8,CSh.int .u8,CSh.int .u8,CSh.int .u8,CSh.int .u8,CSh.int .u8,CSh.int .u8,CSh.int .u8,CSh.int .u8,CSh.int .u8,CSh.int .u8,CSh.int .u8,CSh.int .u8,CSh.int .u8,CSh.int .u8,CSh.int .u8,CSh.int .u8,CSh.int .u8,CSh.int .u8,CSh.int .u8,CSh.int .u8,CSh.int .u8,CSh.int .u8,CSh.int .u8,CSh.int .u8,CSh.int .u8,CSh.int .u8,CSh.int .u8,CSh.int .u8,CSh.int .u8,CSh.int .u8,CSh.int .u8,CSh.int .u8,CSh.int .u8,CSh.int .u8,CSh.int .u8,CSh.int .u8,CSh.int .u8,CSh.int .u8,CSh.int .u8,CSh.int .u8,CSh.int .u8,CSh.int .u8,CSh.int .u8,CSh.int .u8,CSh.int .u8,CSh.int .u8,CSh.int .u8,CSh.int .u8,CSh.int .u8,CSh.int .u8,CSh.int .u8,CSh.int .u8,CSh.int .u8,CSh.int .u8,CSh.int .u8,CSh.int .u8,CSh.int .u8,CSh.int .u8,CSh.int .u8,CSh.int .u8,CSh.int .u8,CSh.int .u8,CSh.int .u8,CSh.int .u8,CSh.int .u8,CSh.int .u8,CSh.int .u8,CSh.int .u8,CSh.int .u8,CSh.int .u8,CSh.int .u8,CSh.int .u8,CSh.int .u8,CSh.int .u8,CSh.int .u8,CSh.int .u8,CSh.int .u8,CSh.int .u8,CSh.int .u8,CSh.int .u8,CSh.int .u8,CSh.int .u8,CSh.int .u8,CSh.int .u8,CSh.int .u8,CSh.int .u8,CSh.int .u8,CSh.int .u8,CSh.int .u8,CSh.int .u8,CSh.int .u8,CSh.int .u8,CSh.int .u8,CSh.int .u8,CSh.int .u8,CSh.int .u8,CSh.int .u8,CSh.int .u8,CSh.int .u8,CSh.int .u8,CSh.int .u8,CSh.int .u8,CSh.int .u8,CSh.int .u8,CSh.int .u8,CSh.int .u8,CSh.int .u8,CSh.int .u8,CSh.int .u8,CSh.int .u8,CSh.int .u8,CSh.int .u8,CSh.int .u8,CSh.int .u8],[V.int .u8 0,V.int .u8 0,V.int .u8 0,V.int .u8 0,V.int .u8 0,V.int .u8 0,V.int .u8 0,V.int .u8 0,V.int .u8 0,V.int .u8 0,V.int .u8 0,V.int .u8 0,V.int .u8 0,V.int .u8 0,V.int .u8 0,V.int .u8 0,V.int .u8 0,V.int .u8 0,V.int .u8 0,V.int .u8 0,V.int .u8 0,V.int .u8 0,V.int .u8 0,V.int .u8 0,V.int .u8 0,V.int .u8 0,V.int .u8 0,V.int .u8 0,V.int .u8 0,V.int .u8 0,V.int .u8 0,V.int .u8 0,V.int .u8 0,V.int .u8 0,V.int .u8 0,V.int .u8 0,V.int .u8 0,V.int .u8 0,V.int .u8 0,V.int .u8 0,V.int .u8 0,V.int .u8 0,V.int .u8 0,V.int .u8 0,V.int .u8 0,V.int .u8 0,V.int .u8 0,V.int .u8 0,V.int .u8 0,V.int .u8 0,V.int .u8 0,V.int .u8 0,V.int .u8 0,V.int .u8 0,V.int .u8 0,V.int .u8 0,V.int .u8 0,V.int .u8 0,V.int .u8 0,V.int .u8 0,V.int .u8 0,V.int .u8 0,V.int .u8 0,V.int .u8 0,V.int .u8 0,V.int .u8 0,V.int .u8 0,V.int .u8 0,V.int .u8 0,V.int .u8 0,V.int .u8 0,V.int .u8 0,V.int .u8 0,V.int .u8 0,V.int .u8 0,V.int .u8 0,V.int .u8 0,V.int .u8 0,V.int .u8 0,V.int .u8 0,V.int .u8 0,V.int .u8 0,V.int .u8 0,V.int .u8 0,V.int .u8 0,V.int .u8 0,V.int .u8 0,V.int .u8 0,V.int .u8 0,V.int .u8 0,V.int .u8 0,V.int .u8 0,V.int .u8 0,V.int .u8 0,V.int .u8 0,V.int .u8 0,V.int .u8 0,V.int .u8 0,V.int .u8 0,V.int .u8 0,V.int .u8 0,V.int .u8 0,V.int .u8 0,V.int .u8 0,V.int .u8 0,V.int .u8 0,V.int .u8 0,V.int .u8 0,V.int .u8 0,V.int .u8 0,V.int .u8 0,V.int .u8 0,V.int .u8 0,V.int .u8 0,V.int .u8 0,V.int .u8 0,V.int .u8 0,V.int .u8 0,V.int .u8 0,V.int .u8 0,V.int .u8 0,V.int .u8 0,V.int .u8 0,V.int .u8 0,V.int .u8 0,V.int .u8 0,V.int .u8 0,V.int .u8 0,V.int .u8 0,V.int .u8 0,V.int .u8 0,V.int .u8 0,V.int .u8 0,V.int .u8 0,V.int .u8 0,V.int .u8 0,V.int .u8 0,V.int .u8 0,V.int .u8 0,V.int .u8 0,V.int .u8 0,V.int .u8 0,V.int .u8 0,V.int .u8 0,V.int .u8 0,V.int .u8 0,V.int .u8 0,V.int .u8 0,V.int .u8 0,V.int .u8 0,V.int .u8 0,V.int .u8 0,V.int .u8 0,V.int .u8 0,V.int .u8 0,V.int .u8 0,V.int .u8 0,V.int .u8 0,V.int .u8 0,V.int .u8 0,V.int .u8 0,V.int .u8 0,V.int .u8 0,V.int .u8 0,V.int .u8 0,V.int .u8 0,V.int .u8 0,V.int .u8 0,V.int .u8 0,V.int .u8 0,V.int .u8 0,V.int .u8 0,V.int .u8 0,V.int .u8 0,V.int .u8 0,V.int .u8 0,V.int .u8 0,V.int .u8 0,V.int .u8 0,V.int .u8 0,V.int .u8 0,V.int .u8 0,V.int .u8 0,V.int .u8 0,V.int .u8 0,V.int .u8 0,V.int .u8 0,V.int .u8 0,V.int .u8 0,V.int .u8 0,V.int .u8 0,V.int .u8 0,V.int .u8 0,V.int .u8 0,V.int .u8 0,V.int .u8 0,V.int .u8 0,V.int .u8 0,V.int .u8 0,V.int .u8 0,V.int .u8 0,V.int .u8 0,V.int .u8 0,V.int .u8 0,V.int .u8 0,V.int .u8 0,V.int .u8 0,V.int .u8 0,V.int .u8 0,V.int .u8 0,V.int .u8 0,V.int .u8 0,V.int .u8 0,V.int .u8 0,V.int .u8 0,V.int .u8 0,V.int .u8 0,V.int .u8 0,V.int .u8 0,V.int .u8 0,V.int .u8 0,V.int .u8 0,V.int .u8 0,V.int .u8 0,V.int .u8 0,V.int .u8 0,V.int .u8 0,V.int .u8 0,V.int .u8 0,V.int .u8 0,V.int .u8 0,V.int .u8 0,V.int .u8 0,V.int .u8 0,V.int .u8 0,V.int .u8 0,V.int .u8 0,V.int .u8 0,V.int .u8 0,V.int .u8 0,V.int .u8 0,V.int .u8 0,V.int .u8 0,V.int .u8 0,V.int .u8 0,V.int .u8 0,V.int .u8 0,V.int .u8 0,V.int .u8 0,V.int .u8 0,V.int .u8 0,V.int .u8 0,V.int .u8 0,V.int .u8 0,V.int .u8 0,V.int .u8 0],false⟩,
 some ⟨Tryz.t231.desc,2,2,true,[CSh.int .u8,CSh.int .u8],[V.int .u8 0,V.int .u8 0],false⟩,
 some ⟨Tryz.t231.desc,2,2,true,[CSh.int .u8,CSh.int .u8],[V.int .u8 0,V.int .u8 0],false⟩,
 some ⟨Tryz.t233.desc,32,32,true,[CSh.int .u8,CSh.int .u8,CSh.int .u8,CSh.int .u8,CSh.int .u8,CSh.int .u8,CSh.int .u8,CSh.int .u8,CSh.int .u8,CSh.int .u8,CSh.int .u8,CSh.int .u8,CSh.int .u8,CSh.int .u8,CSh.int .u8,CSh.int .u8,CSh.int .u8,CSh.int .u8,CSh.int .u8,CSh.int .u8,CSh.int .u8,CSh.int .u8,CSh.int .u8,CSh.int .u8,CSh.int .u8,CSh.int .u8,CSh.int .u8,CSh.int .u8,CSh.int .u8,CSh.int .u8,CSh.int .u8,CSh.int .u8],[V.int .u8 0,V.int .u8 0,V.int .u8 0,V.int .u8 0,V.int .u8 0,V.int .u8 0,V.int .u8 0,V.int .u8 0,V.int .u8 0,V.int .u8 0,V.int .u8 0,V.int .u8 0,V.int .u8 0,V.int .u8 0,V.int .u8 0,V.int .u8 0,V.int .u8 0,V.int .u8 0,V.int .u8 0,V.int .u8 0,V.int .u8 0,V.int .u8 0,V.int .u8 0,V.int .u8 0,V.int .u8 0,V.int .u8 0,V.int .u8 0,V.int .u8 0,V.int .u8 0,V.int .u8 0,V.int .u8 0,V.int .u8 0],false⟩,
 some ⟨Tryz.t234.desc,4,40,true,[CSh.other,CSh.other,CSh.other,CSh.str],[V.raw (.pointer none),V.raw (.pointer none),V.raw (.pointer none),V.str []],false⟩,
 some ⟨Tryz.t234.desc,4,40,true,[CSh.other,CSh.other,CSh.other,CSh.str],[V.raw (.pointer none),V.raw (.pointer none),V.raw (.pointer none),V.str []],false⟩,
 some ⟨Tryz.t236.desc,0,0,true,[],[],false⟩,
 some ⟨Tryz.t237.desc,0,0,true,[],[],false⟩,
 some ⟨Tryz.t237.desc,0,0,true,[],[],false⟩,
 some ⟨Tryz.t239.desc,1,8,false,[CSh.other],[V.raw .nilFunc],false⟩]
noncomputable def Of:List (Option Ty):=[
 some ⟨Tryz.t5.desc,1,1,false,[CSh.int .u8],[V.int .u8 0],true⟩,
 some ⟨Tryz.t241.desc,1,8,false,[CSh.other],[V.raw .nilFunc],false⟩,
 some ⟨Tryz.t21.desc,1,4,false,[CSh.int .i32],[V.int .i32 0],true⟩,
 some ⟨Tryz.t21.desc,1,4,false,[CSh.int .i32],[V.int .i32 0],true⟩,
 some ⟨Tryz.t244.desc,11,48,true,[CSh.int .u64,CSh.int .u64,CSh.int .u32,CSh.int .u8,CSh.int .u8,CSh.int .u8,CSh.int .u8,CSh.other,CSh.other,CSh.int .i32,CSh.int .i32],[V.int .u64 0,V.int .u64 0,V.int .u32 0,V.int .u8 0,V.int .u8 0,V.int .u8 0,V.int .u8 0,V.raw .nilFunc,V.raw (.pointer none),V.int .i32 0,V.int .i32 0],false⟩,
 some ⟨Tryz.t244.desc,11,48,true,[CSh.int .u64,CSh.int .u64,CSh.int .u32,CSh.int .u8,CSh.int .u8,CSh.int .u8,CSh.int .u8,CSh.other,CSh.other,CSh.int .i32,CSh.int .i32],[V.int .u64 0,V.int .u64 0,V.int .u32 0,V.int .u8 0,V.int .u8 0,V.int .u8 0,V.int .u8 0,V.raw .nilFunc,V.raw (.pointer none),V.int .i32 0,V.int .i32 0],false⟩,
 some ⟨Tryz.t246.desc,1,8,false,[CSh.other],[V.raw .nilFunc],false⟩,
 some ⟨Tryz.t247.desc,1,8,false,[CSh.other],[V.raw .nilFunc],false⟩,
 some ⟨Tryz.t248.desc,2,24,true,[CSh.str,CSh.int .u8],[V.str [],V.int .u8 0],false⟩,
 some ⟨Tryz.t248.desc,2,24,true,[CSh.str,CSh.int .u8],[V.str [],V.int .u8 0],false⟩,
 some ⟨Tryz.t250.desc,1,8,false,[CSh.other],[V.raw (.pointer none)],false⟩,
 some ⟨Tryz.t251.desc,1,8,false,[CSh.other],[V.raw .nilFunc],false⟩,
 some ⟨Tryz.t252.desc,5,16,true,[CSh.int .i32,CSh.int .u16,CSh.int .u16,CSh.int .u32,CSh.int .u32],[V.int .i32 0,V.int .u16 0,V.int .u16 0,V.int .u32 0,V.int .u32 0],false⟩,
 some ⟨Tryz.t252.desc,5,16,true,[CSh.int .i32,CSh.int .u16,CSh.int .u16,CSh.int .u32,CSh.int .u32],[V.int .i32 0,V.int .u16 0,V.int .u16 0,V.int .u32 0,V.int .u32 0],false⟩,
 some ⟨Tryz.t254.desc,1,24,false,[CSh.lst 257 false],[V.lst 257 true []],false⟩,
 some ⟨Tryz.t21.desc,1,4,false,[CSh.int .i32],[V.int .i32 0],true⟩]
noncomputable def Og:List (Option Ty):=[
 some ⟨Tryz.t256.desc,4,16,true,[CSh.int .i32,CSh.int .i32,CSh.int .i32,CSh.int .i32],[V.int .i32 0,V.int .i32 0,V.int .i32 0,V.int .i32 0],false⟩,
 some ⟨Tryz.t256.desc,4,16,true,[CSh.int .i32,CSh.int .i32,CSh.int .i32,CSh.int .i32],[V.int .i32 0,V.int .i32 0,V.int .i32 0,V.int .i32 0],false⟩,
 some ⟨Tryz.t258.desc,1,8,false,[CSh.other],[V.raw (.pointer none)],false⟩]
noncomputable def Qj:List (List (Option Ty)):=[P9,Qa,Qb,Qc,Qd,Qe,Qf,Qg,Qh,Qi,N9,Oa,Oc,Od,Oe,Of,Og]
noncomputable def tyT (t:TypeId):Option Ty:=((Qj.getD (t / 16) []).getD (t % 16) none)
noncomputable def Qk:List (Option Func):=[none,none,some Tryz.f2,some Tryz.f3,some Tryz.f4,some Tryz.f5,some Tryz.f6,some Tryz.f7,some Tryz.f8,some Tryz.f9,some Tryz.f10,some Tryz.f11,some Tryz.f12,some Tryz.f13,some Tryz.f14,some Tryz.f15]
noncomputable def Ql:List (Option Func):=[some Tryz.f16,some Tryz.f17,some Tryz.f18,some Tryz.f19,some Tryz.f20,some Tryz.f21,some Tryz.f22,some Tryz.f23,some Tryz.f24,some Tryz.f25,some Tryz.f26,some Tryz.f27,some Tryz.f28,some Tryz.f29,some Tryz.f30,some Tryz.f31]
noncomputable def Qm:List (Option Func):=[some Tryz.f32,some Tryz.f33,some Tryz.f34,some Tryz.f35,some Tryz.f36,some Tryz.f37,some Tryz.f38,some Tryz.f39,some Tryz.f40,some Tryz.f41,some Tryz.f42,some Tryz.f43,some Tryz.f44,some Tryz.f45,some Tryz.f46,some Tryz.f47]
noncomputable def Qn:List (Option Func):=[some Tryz.f48,some Tryz.f49,some Tryz.f50,some Tryz.f51,some Tryz.f52,some Tryz.f53,some Tryz.f54,some Tryz.f55,some Tryz.f56,some Tryz.f57,some Tryz.f58,some Tryz.f59,some Tryz.f60,some Tryz.f61,some Tryz.f62,some Tryz.f63]
noncomputable def Qo:List (Option Func):=[some Tryz.f64,some Tryz.f65,some Tryz.f66,some Tryz.f67,some Tryz.f68,some Tryz.f69,some Tryz.f70,some Tryz.f71,none,none,none,some Tryz.f75,some Tryz.f76,some Tryz.f77,some Tryz.f78,some Tryz.f79]
noncomputable def Qp:List (Option Func):=[some Tryz.f80,some Tryz.f81,some Tryz.f82,some Tryz.f83,some Tryz.f84,some Tryz.f85,some Tryz.f86,some Tryz.f87,some Tryz.f88,some Tryz.f89,some Tryz.f90,some Tryz.f91,some Tryz.f92,some Tryz.f93,some Tryz.f94,some Tryz.f95]
noncomputable def Qq:List (Option Func):=[some Tryz.f96,some Tryz.f97,some Tryz.f98,none,none,none,some Tryz.f102,some Tryz.f103,some Tryz.f104,some Tryz.f105,some Tryz.f106,some Tryz.f107,some Tryz.f108,some Tryz.f109,some Tryz.f110,some Tryz.f111]
noncomputable def Qr:List (Option Func):=[some Tryz.f112,some Tryz.f113,some Tryz.f114,some Tryz.f115,none,some Tryz.f117,some Tryz.f118,some Tryz.f119,some Tryz.f120,some Tryz.f121,some Tryz.f122,none,none,some Tryz.f125,some Tryz.f126,some Tryz.f127]
noncomputable def Qs:List (Option Func):=[some Tryz.f128,some Tryz.f129,some Tryz.f130,some Tryz.f131,some Tryz.f132,some Tryz.f133,none,some Tryz.f135,none,none,none,none,none,none,none,none]
noncomputable def Qt:List (Option Func):=[none,none,none,none,none,none,none,none,none,none,none,some Tryz.f155,none,none,none,none]
noncomputable def Oh:List (Option Func):=[none,none,none,none,none,none,none,none,none,none,none,none,none,none,none,none]
noncomputable def Oi:List (Option Func):=[none,some Tryz.f177]
noncomputable def Qu:List (List (Option Func)):=[Qk,Ql,Qm,Qn,Qo,Qp,Qq,Qr,Qs,Qt,Oh,Oi]
noncomputable def fnT (f:FuncId):Option Func:=((Qu.getD (f / 16) []).getD (f % 16) none)
end Go.Proofs.YtgpofjbdjiajeaaGreatDoor
end
section
namespace Go.Proofs.YtgpofjbdjiajeaaGreatDoor
open Go.Ev Go.Proofs
noncomputable def gA (hand:FuncId→Option ((FuncId→Fun)→Fun)) (wants:FuncId→Nat→Bool) (rtip ro pur:FuncId→Bool) (rsh:FuncId→Option (List RSh)) (bld:TypeId→Bool) (cutO:FuncId→Bool) (owns:TypeId→Bool) (glob:Nat→Option Dv) (inn:FuncId→Bool) (mvt:TypeId→Bool):Cfg:=⟨Tryz.prog,tyT,fnT,hand,fun _=>false,wants,rtip,ro,pur,rsh,bld,cutO,owns,glob,inn,mvt⟩
section
variable (hand : FuncId → Option ((FuncId → Fun) → Fun)) (wants : FuncId → Nat → Bool) (rtip ro pur : FuncId → Bool) (rsh : FuncId → Option (List RSh)) (bld : TypeId → Bool) (cutO : FuncId → Bool) (owns : TypeId → Bool) (glob : Nat → Option Dv) (inn : FuncId → Bool) (mvt : TypeId → Bool)
theorem Qv:allT (fun t y=>iM (gA hand wants rtip ro pur rsh bld cutO owns glob inn mvt) t y) P9 (0*16):=⟨aC (t:=1) (by kernel_rfl) (by kernel_rfl),aC (t:=2) (by kernel_rfl) (by kernel_rfl),aC (t:=3) (by kernel_rfl) (by kernel_rfl),aC (t:=4) (by kernel_rfl) (by kernel_rfl),aC (t:=5) (by kernel_rfl) (by kernel_rfl),aC (t:=6) (by kernel_rfl) (by kernel_rfl),aC (t:=7) (by kernel_rfl) (by kernel_rfl),aC (t:=8) (by kernel_rfl) (by kernel_rfl),aC (t:=9) (by kernel_rfl) (by kernel_rfl),aC (t:=10) (by kernel_rfl) (by kernel_rfl),aC (t:=11) (by kernel_rfl) (by kernel_rfl),aC (t:=12) (by kernel_rfl) (by kernel_rfl),aC (t:=13) (by kernel_rfl) (by kernel_rfl),aC (t:=14) (by kernel_rfl) (by kernel_rfl),aC (t:=15) (by kernel_rfl) (by kernel_rfl),trivial⟩
theorem Qw:allT (fun t y=>iM (gA hand wants rtip ro pur rsh bld cutO owns glob inn mvt) t y) Qa (1*16):=⟨aC (t:=16) (by kernel_rfl) (by kernel_rfl),aC (t:=17) (by kernel_rfl) (by kernel_rfl),aC (t:=18) (by kernel_rfl) (by kernel_rfl),aC (t:=19) (by kernel_rfl) (by kernel_rfl),aC (t:=20) (by kernel_rfl) (by kernel_rfl),aC (t:=21) (by kernel_rfl) (by kernel_rfl),aC (t:=22) (by kernel_rfl) (by kernel_rfl),aC (t:=23) (by kernel_rfl) (by kernel_rfl),aC (t:=24) (by kernel_rfl) (by kernel_rfl),aC (t:=25) (by kernel_rfl) (by kernel_rfl),aC (t:=26) (by kernel_rfl) (by kernel_rfl),aC (t:=27) (by kernel_rfl) (by kernel_rfl),aC (t:=28) (by kernel_rfl) (by kernel_rfl),aC (t:=29) (by kernel_rfl) (by kernel_rfl),aC (t:=30) (by kernel_rfl) (by kernel_rfl),aC (t:=31) (by kernel_rfl) (by kernel_rfl),trivial⟩
theorem Qx:allT (fun t y=>iM (gA hand wants rtip ro pur rsh bld cutO owns glob inn mvt) t y) Qb (2*16):=⟨aC (t:=32) (by kernel_rfl) (by kernel_rfl),aC (t:=34) (by kernel_rfl) (by kernel_rfl),aC (t:=36) (by kernel_rfl) (by kernel_rfl),aC (t:=37) (by kernel_rfl) (by kernel_rfl),aC (t:=38) (by kernel_rfl) (by kernel_rfl),aC (t:=39) (by kernel_rfl) (by kernel_rfl),aC (t:=40) (by kernel_rfl) (by kernel_rfl),aC (t:=42) (by kernel_rfl) (by kernel_rfl),aC (t:=43) (by kernel_rfl) (by kernel_rfl),aC (t:=44) (by kernel_rfl) (by kernel_rfl),aC (t:=45) (by kernel_rfl) (by kernel_rfl),aC (t:=46) (by kernel_rfl) (by kernel_rfl),aC (t:=47) (by kernel_rfl) (by kernel_rfl),trivial⟩
theorem Qy:allT (fun t y=>iM (gA hand wants rtip ro pur rsh bld cutO owns glob inn mvt) t y) Qc (3*16):=⟨aC (t:=48) (by kernel_rfl) (by kernel_rfl),aC (t:=49) (by kernel_rfl) (by kernel_rfl),aC (t:=51) (by kernel_rfl) (by kernel_rfl),aC (t:=52) (by kernel_rfl) (by kernel_rfl),aC (t:=53) (by kernel_rfl) (by kernel_rfl),aC (t:=54) (by kernel_rfl) (by kernel_rfl),aC (t:=55) (by kernel_rfl) (by kernel_rfl),aC (t:=56) (by kernel_rfl) (by kernel_rfl),aC (t:=57) (by kernel_rfl) (by kernel_rfl),aC (t:=58) (by kernel_rfl) (by kernel_rfl),aC (t:=59) (by kernel_rfl) (by kernel_rfl),aC (t:=60) (by kernel_rfl) (by kernel_rfl),aC (t:=61) (by kernel_rfl) (by kernel_rfl),aC (t:=63) (by kernel_rfl) (by kernel_rfl),trivial⟩
theorem Qz:allT (fun t y=>iM (gA hand wants rtip ro pur rsh bld cutO owns glob inn mvt) t y) Qd (4*16):=⟨aC (t:=64) (by kernel_rfl) (by kernel_rfl),aC (t:=65) (by kernel_rfl) (by kernel_rfl),aC (t:=66) (by kernel_rfl) (by kernel_rfl),aC (t:=67) (by kernel_rfl) (by kernel_rfl),aC (t:=68) (by kernel_rfl) (by kernel_rfl),aC (t:=69) (by kernel_rfl) (by kernel_rfl),aC (t:=70) (by kernel_rfl) (by kernel_rfl),aC (t:=71) (by kernel_rfl) (by kernel_rfl),aC (t:=72) (by kernel_rfl) (by kernel_rfl),aC (t:=73) (by kernel_rfl) (by kernel_rfl),aC (t:=74) (by kernel_rfl) (by kernel_rfl),aC (t:=76) (by kernel_rfl) (by kernel_rfl),aC (t:=78) (by kernel_rfl) (by kernel_rfl),aC (t:=79) (by kernel_rfl) (by kernel_rfl),trivial⟩
theorem QA:allT (fun t y=>iM (gA hand wants rtip ro pur rsh bld cutO owns glob inn mvt) t y) Qe (5*16):=⟨aC (t:=80) (by kernel_rfl) (by kernel_rfl),aC (t:=81) (by kernel_rfl) (by kernel_rfl),aC (t:=83) (by kernel_rfl) (by kernel_rfl),aC (t:=84) (by kernel_rfl) (by kernel_rfl),aC (t:=85) (by kernel_rfl) (by kernel_rfl),aC (t:=86) (by kernel_rfl) (by kernel_rfl),aC (t:=88) (by kernel_rfl) (by kernel_rfl),aC (t:=89) (by kernel_rfl) (by kernel_rfl),aC (t:=90) (by kernel_rfl) (by kernel_rfl),aC (t:=91) (by kernel_rfl) (by kernel_rfl),aC (t:=92) (by kernel_rfl) (by kernel_rfl),aC (t:=94) (by kernel_rfl) (by kernel_rfl),trivial⟩
theorem QB:allT (fun t y=>iM (gA hand wants rtip ro pur rsh bld cutO owns glob inn mvt) t y) Qf (6*16):=⟨aC (t:=96) (by kernel_rfl) (by kernel_rfl),aC (t:=97) (by kernel_rfl) (by kernel_rfl),aC (t:=98) (by kernel_rfl) (by kernel_rfl),aC (t:=99) (by kernel_rfl) (by kernel_rfl),aC (t:=100) (by kernel_rfl) (by kernel_rfl),aC (t:=101) (by kernel_rfl) (by kernel_rfl),aC (t:=102) (by kernel_rfl) (by kernel_rfl),aC (t:=103) (by kernel_rfl) (by kernel_rfl),aC (t:=104) (by kernel_rfl) (by kernel_rfl),aC (t:=105) (by kernel_rfl) (by kernel_rfl),aC (t:=106) (by kernel_rfl) (by kernel_rfl),aC (t:=107) (by kernel_rfl) (by kernel_rfl),aC (t:=108) (by kernel_rfl) (by kernel_rfl),aC (t:=109) (by kernel_rfl) (by kernel_rfl),aC (t:=110) (by kernel_rfl) (by kernel_rfl),aC (t:=111) (by kernel_rfl) (by kernel_rfl),trivial⟩
theorem QC:allT (fun t y=>iM (gA hand wants rtip ro pur rsh bld cutO owns glob inn mvt) t y) Qg (7*16):=⟨aC (t:=112) (by kernel_rfl) (by kernel_rfl),aC (t:=113) (by kernel_rfl) (by kernel_rfl),aC (t:=114) (by kernel_rfl) (by kernel_rfl),aC (t:=115) (by kernel_rfl) (by kernel_rfl),aC (t:=116) (by kernel_rfl) (by kernel_rfl),aC (t:=117) (by kernel_rfl) (by kernel_rfl),aC (t:=119) (by kernel_rfl) (by kernel_rfl),aC (t:=120) (by kernel_rfl) (by kernel_rfl),aC (t:=121) (by kernel_rfl) (by kernel_rfl),aC (t:=122) (by kernel_rfl) (by kernel_rfl),aC (t:=123) (by kernel_rfl) (by kernel_rfl),aC (t:=124) (by kernel_rfl) (by kernel_rfl),aC (t:=125) (by kernel_rfl) (by kernel_rfl),aC (t:=126) (by kernel_rfl) (by kernel_rfl),aC (t:=127) (by kernel_rfl) (by kernel_rfl),trivial⟩
theorem QD:allT (fun t y=>iM (gA hand wants rtip ro pur rsh bld cutO owns glob inn mvt) t y) Qh (8*16):=⟨aC (t:=128) (by kernel_rfl) (by kernel_rfl),aC (t:=129) (by kernel_rfl) (by kernel_rfl),aC (t:=130) (by kernel_rfl) (by kernel_rfl),aC (t:=131) (by kernel_rfl) (by kernel_rfl),aC (t:=132) (by kernel_rfl) (by kernel_rfl),aC (t:=133) (by kernel_rfl) (by kernel_rfl),aC (t:=135) (by kernel_rfl) (by kernel_rfl),aC (t:=137) (by kernel_rfl) (by kernel_rfl),aC (t:=138) (by kernel_rfl) (by kernel_rfl),aC (t:=139) (by kernel_rfl) (by kernel_rfl),aC (t:=140) (by kernel_rfl) (by kernel_rfl),aC (t:=141) (by kernel_rfl) (by kernel_rfl),aC (t:=143) (by kernel_rfl) (by kernel_rfl),trivial⟩
theorem QE:allT (fun t y=>iM (gA hand wants rtip ro pur rsh bld cutO owns glob inn mvt) t y) Qi (9*16):=⟨aC (t:=145) (by kernel_rfl) (by kernel_rfl),aC (t:=146) (by kernel_rfl) (by kernel_rfl),aC (t:=147) (by kernel_rfl) (by kernel_rfl),aC (t:=148) (by kernel_rfl) (by kernel_rfl),aC (t:=149) (by kernel_rfl) (by kernel_rfl),aC (t:=150) (by kernel_rfl) (by kernel_rfl),aC (t:=151) (by kernel_rfl) (by kernel_rfl),aC (t:=152) (by kernel_rfl) (by kernel_rfl),aC (t:=153) (by kernel_rfl) (by kernel_rfl),aC (t:=154) (by kernel_rfl) (by kernel_rfl),aC (t:=155) (by kernel_rfl) (by kernel_rfl),aC (t:=156) (by kernel_rfl) (by kernel_rfl),aC (t:=157) (by kernel_rfl) (by kernel_rfl),aC (t:=158) (by kernel_rfl) (by kernel_rfl),aC (t:=159) (by kernel_rfl) (by kernel_rfl),trivial⟩
theorem O6:allT (fun t y=>iM (gA hand wants rtip ro pur rsh bld cutO owns glob inn mvt) t y) N9 (10*16):=⟨aC (t:=160) (by kernel_rfl) (by kernel_rfl),aC (t:=161) (by kernel_rfl) (by kernel_rfl),aC (t:=162) (by kernel_rfl) (by kernel_rfl),aC (t:=163) (by kernel_rfl) (by kernel_rfl),aC (t:=164) (by kernel_rfl) (by kernel_rfl),aC (t:=165) (by kernel_rfl) (by kernel_rfl),aC (t:=166) (by kernel_rfl) (by kernel_rfl),aC (t:=167) (by kernel_rfl) (by kernel_rfl),aC (t:=168) (by kernel_rfl) (by kernel_rfl),aC (t:=169) (by kernel_rfl) (by kernel_rfl),aC (t:=170) (by kernel_rfl) (by kernel_rfl),aC (t:=171) (by kernel_rfl) (by kernel_rfl),aC (t:=172) (by kernel_rfl) (by kernel_rfl),aC (t:=173) (by kernel_rfl) (by kernel_rfl),aC (t:=174) (by kernel_rfl) (by kernel_rfl),aC (t:=175) (by kernel_rfl) (by kernel_rfl),trivial⟩
theorem O7:allT (fun t y=>iM (gA hand wants rtip ro pur rsh bld cutO owns glob inn mvt) t y) Oa (11*16):=⟨aC (t:=176) (by kernel_rfl) (by kernel_rfl),aC (t:=177) (by kernel_rfl) (by kernel_rfl),aC (t:=178) (by kernel_rfl) (by kernel_rfl),aC (t:=179) (by kernel_rfl) (by kernel_rfl),aC (t:=180) (by kernel_rfl) (by kernel_rfl),aC (t:=181) (by kernel_rfl) (by kernel_rfl),aC (t:=183) (by kernel_rfl) (by kernel_rfl),aC (t:=184) (by kernel_rfl) (by kernel_rfl),aC (t:=185) (by kernel_rfl) (by kernel_rfl),aC (t:=186) (by kernel_rfl) (by kernel_rfl),aC (t:=187) (by kernel_rfl) (by kernel_rfl),aC (t:=188) (by kernel_rfl) (by kernel_rfl),aC (t:=189) (by kernel_rfl) (by kernel_rfl),aC (t:=190) (by kernel_rfl) (by kernel_rfl),trivial⟩
theorem O8:allT (fun t y=>iM (gA hand wants rtip ro pur rsh bld cutO owns glob inn mvt) t y) Oc (12*16):=⟨aC (t:=192) (by kernel_rfl) (by kernel_rfl),aC (t:=193) (by kernel_rfl) (by kernel_rfl),aC (t:=194) (by kernel_rfl) (by kernel_rfl),aC (t:=195) (by kernel_rfl) (by kernel_rfl),aC (t:=196) (by kernel_rfl) (by kernel_rfl),aC (t:=197) (by kernel_rfl) (by kernel_rfl),aC (t:=198) (by kernel_rfl) (by kernel_rfl),aC (t:=199) (by kernel_rfl) (by kernel_rfl),aC (t:=200) (by kernel_rfl) (by kernel_rfl),aC (t:=201) (by kernel_rfl) (by kernel_rfl),aC (t:=203) (by kernel_rfl) (by kernel_rfl),aC (t:=204) (by kernel_rfl) (by kernel_rfl),aC (t:=205) (by kernel_rfl) (by kernel_rfl),aC (t:=206) (by kernel_rfl) (by kernel_rfl),aC (t:=207) (by kernel_rfl) (by kernel_rfl),trivial⟩
theorem O9:allT (fun t y=>iM (gA hand wants rtip ro pur rsh bld cutO owns glob inn mvt) t y) Od (13*16):=⟨aC (t:=208) (by kernel_rfl) (by kernel_rfl),aC (t:=209) (by kernel_rfl) (by kernel_rfl),aC (t:=210) (by kernel_rfl) (by kernel_rfl),aC (t:=211) (by kernel_rfl) (by kernel_rfl),aC (t:=212) (by kernel_rfl) (by kernel_rfl),aC (t:=213) (by kernel_rfl) (by kernel_rfl),aC (t:=214) (by kernel_rfl) (by kernel_rfl),aC (t:=215) (by kernel_rfl) (by kernel_rfl),aC (t:=217) (by kernel_rfl) (by kernel_rfl),aC (t:=218) (by kernel_rfl) (by kernel_rfl),aC (t:=219) (by kernel_rfl) (by kernel_rfl),aC (t:=220) (by kernel_rfl) (by kernel_rfl),aC (t:=221) (by kernel_rfl) (by kernel_rfl),aC (t:=222) (by kernel_rfl) (by kernel_rfl),aC (t:=223) (by kernel_rfl) (by kernel_rfl),trivial⟩
theorem Pa:allT (fun t y=>iM (gA hand wants rtip ro pur rsh bld cutO owns glob inn mvt) t y) Oe (14*16):=⟨aC (t:=225) (by kernel_rfl) (by kernel_rfl),aC (t:=226) (by kernel_rfl) (by kernel_rfl),aC (t:=227) (by kernel_rfl) (by kernel_rfl),aC (t:=229) (by kernel_rfl) (by kernel_rfl),aC (t:=230) (by kernel_rfl) (by kernel_rfl),aC (t:=231) (by kernel_rfl) (by kernel_rfl),aC (t:=232) (by kernel_rfl) (by kernel_rfl),aC (t:=233) (by kernel_rfl) (by kernel_rfl),aC (t:=234) (by kernel_rfl) (by kernel_rfl),aC (t:=235) (by kernel_rfl) (by kernel_rfl),aC (t:=236) (by kernel_rfl) (by kernel_rfl),aC (t:=237) (by kernel_rfl) (by kernel_rfl),aC (t:=238) (by kernel_rfl) (by kernel_rfl),aC (t:=239) (by kernel_rfl) (by kernel_rfl),trivial⟩
theorem Pb:allT (fun t y=>iM (gA hand wants rtip ro pur rsh bld cutO owns glob inn mvt) t y) Of (15*16):=⟨aC (t:=240) (by kernel_rfl) (by kernel_rfl),aC (t:=241) (by kernel_rfl) (by kernel_rfl),aC (t:=242) (by kernel_rfl) (by kernel_rfl),aC (t:=243) (by kernel_rfl) (by kernel_rfl),aC (t:=244) (by kernel_rfl) (by kernel_rfl),aC (t:=245) (by kernel_rfl) (by kernel_rfl),aC (t:=246) (by kernel_rfl) (by kernel_rfl),aC (t:=247) (by kernel_rfl) (by kernel_rfl),aC (t:=248) (by kernel_rfl) (by kernel_rfl),aC (t:=249) (by kernel_rfl) (by kernel_rfl),aC (t:=250) (by kernel_rfl) (by kernel_rfl),aC (t:=251) (by kernel_rfl) (by kernel_rfl),aC (t:=252) (by kernel_rfl) (by kernel_rfl),aC (t:=253) (by kernel_rfl) (by kernel_rfl),aC (t:=254) (by kernel_rfl) (by kernel_rfl),aC (t:=255) (by kernel_rfl) (by kernel_rfl),trivial⟩
theorem Pd:allT (fun t y=>iM (gA hand wants rtip ro pur rsh bld cutO owns glob inn mvt) t y) Og (16*16):=⟨aC (t:=256) (by kernel_rfl) (by kernel_rfl),aC (t:=257) (by kernel_rfl) (by kernel_rfl),aC (t:=258) (by kernel_rfl) (by kernel_rfl),trivial⟩
theorem QF:Fp (fun t y=>iM (gA hand wants rtip ro pur rsh bld cutO owns glob inn mvt) t y) 16 Qj 0:=⟨by decide,Qv hand wants rtip ro pur rsh bld cutO owns glob inn mvt,by decide,Qw hand wants rtip ro pur rsh bld cutO owns glob inn mvt,by decide,Qx hand wants rtip ro pur rsh bld cutO owns glob inn mvt,by decide,Qy hand wants rtip ro pur rsh bld cutO owns glob inn mvt,by decide,Qz hand wants rtip ro pur rsh bld cutO owns glob inn mvt,by decide,QA hand wants rtip ro pur rsh bld cutO owns glob inn mvt,by decide,QB hand wants rtip ro pur rsh bld cutO owns glob inn mvt,by decide,QC hand wants rtip ro pur rsh bld cutO owns glob inn mvt,by decide,QD hand wants rtip ro pur rsh bld cutO owns glob inn mvt,by decide,QE hand wants rtip ro pur rsh bld cutO owns glob inn mvt,by decide,O6 hand wants rtip ro pur rsh bld cutO owns glob inn mvt,by decide,O7 hand wants rtip ro pur rsh bld cutO owns glob inn mvt,by decide,O8 hand wants rtip ro pur rsh bld cutO owns glob inn mvt,by decide,O9 hand wants rtip ro pur rsh bld cutO owns glob inn mvt,by decide,Pa hand wants rtip ro pur rsh bld cutO owns glob inn mvt,by decide,Pb hand wants rtip ro pur rsh bld cutO owns glob inn mvt,by decide,Pd hand wants rtip ro pur rsh bld cutO owns glob inn mvt,trivial⟩
def uU (f : FuncId) (x : Func) : Prop := Tryz.prog.funcs[f]? = some x ∧ x.name ≠ "runtime.NumGoroutine" ∧ x.body.isSome = true
theorem aU {f : FuncId} {x : Func} (h1 : Tryz.prog.funcs[f]? = some x) (h2 : (!(x.name == "runtime.NumGoroutine") && x.body.isSome) = true) : uU f x := by
 simp only[TR]at h2
 exact⟨h1,by simpa using h2.1,h2.2⟩
theorem QG:allT uU Qk (0*16):=⟨aU (f:=2) Tryz.func2 (by kernel_rfl),aU (f:=3) Tryz.func3 (by kernel_rfl),aU (f:=4) Tryz.func4 (by kernel_rfl),aU (f:=5) Tryz.func5 (by kernel_rfl),aU (f:=6) Tryz.func6 (by kernel_rfl),aU (f:=7) Tryz.func7 (by kernel_rfl),aU (f:=8) Tryz.func8 (by kernel_rfl),aU (f:=9) Tryz.func9 (by kernel_rfl),aU (f:=10) Tryz.func10 (by kernel_rfl),aU (f:=11) Tryz.func11 (by kernel_rfl),aU (f:=12) Tryz.func12 (by kernel_rfl),aU (f:=13) Tryz.func13 (by kernel_rfl),aU (f:=14) Tryz.func14 (by kernel_rfl),aU (f:=15) Tryz.func15 (by kernel_rfl),trivial⟩
theorem QH:allT uU Ql (1*16):=⟨aU (f:=16) Tryz.func16 (by kernel_rfl),aU (f:=17) Tryz.func17 (by kernel_rfl),aU (f:=18) Tryz.func18 (by kernel_rfl),aU (f:=19) Tryz.func19 (by kernel_rfl),aU (f:=20) Tryz.func20 (by kernel_rfl),aU (f:=21) Tryz.func21 (by kernel_rfl),aU (f:=22) Tryz.func22 (by kernel_rfl),aU (f:=23) Tryz.func23 (by kernel_rfl),aU (f:=24) Tryz.func24 (by kernel_rfl),aU (f:=25) Tryz.func25 (by kernel_rfl),aU (f:=26) Tryz.func26 (by kernel_rfl),aU (f:=27) Tryz.func27 (by kernel_rfl),aU (f:=28) Tryz.func28 (by kernel_rfl),aU (f:=29) Tryz.func29 (by kernel_rfl),aU (f:=30) Tryz.func30 (by kernel_rfl),aU (f:=31) Tryz.func31 (by kernel_rfl),trivial⟩
theorem QI:allT uU Qm (2*16):=⟨aU (f:=32) Tryz.func32 (by kernel_rfl),aU (f:=33) Tryz.func33 (by kernel_rfl),aU (f:=34) Tryz.func34 (by kernel_rfl),aU (f:=35) Tryz.func35 (by kernel_rfl),aU (f:=36) Tryz.func36 (by kernel_rfl),aU (f:=37) Tryz.func37 (by kernel_rfl),aU (f:=38) Tryz.func38 (by kernel_rfl),aU (f:=39) Tryz.func39 (by kernel_rfl),aU (f:=40) Tryz.func40 (by kernel_rfl),aU (f:=41) Tryz.func41 (by kernel_rfl),aU (f:=42) Tryz.func42 (by kernel_rfl),aU (f:=43) Tryz.func43 (by kernel_rfl),aU (f:=44) Tryz.func44 (by kernel_rfl),aU (f:=45) Tryz.func45 (by kernel_rfl),aU (f:=46) Tryz.func46 (by kernel_rfl),aU (f:=47) Tryz.func47 (by kernel_rfl),trivial⟩
theorem QJ:allT uU Qn (3*16):=⟨aU (f:=48) Tryz.func48 (by kernel_rfl),aU (f:=49) Tryz.func49 (by kernel_rfl),aU (f:=50) Tryz.func50 (by kernel_rfl),aU (f:=51) Tryz.func51 (by kernel_rfl),aU (f:=52) Tryz.func52 (by kernel_rfl),aU (f:=53) Tryz.func53 (by kernel_rfl),aU (f:=54) Tryz.func54 (by kernel_rfl),aU (f:=55) Tryz.func55 (by kernel_rfl),aU (f:=56) Tryz.func56 (by kernel_rfl),aU (f:=57) Tryz.func57 (by kernel_rfl),aU (f:=58) Tryz.func58 (by kernel_rfl),aU (f:=59) Tryz.func59 (by kernel_rfl),aU (f:=60) Tryz.func60 (by kernel_rfl),aU (f:=61) Tryz.func61 (by kernel_rfl),aU (f:=62) Tryz.func62 (by kernel_rfl),aU (f:=63) Tryz.func63 (by kernel_rfl),trivial⟩
theorem QK:allT uU Qo (4*16):=⟨aU (f:=64) Tryz.func64 (by kernel_rfl),aU (f:=65) Tryz.func65 (by kernel_rfl),aU (f:=66) Tryz.func66 (by kernel_rfl),aU (f:=67) Tryz.func67 (by kernel_rfl),aU (f:=68) Tryz.func68 (by kernel_rfl),aU (f:=69) Tryz.func69 (by kernel_rfl),aU (f:=70) Tryz.func70 (by kernel_rfl),aU (f:=71) Tryz.func71 (by kernel_rfl),aU (f:=75) Tryz.func75 (by kernel_rfl),aU (f:=76) Tryz.func76 (by kernel_rfl),aU (f:=77) Tryz.func77 (by kernel_rfl),aU (f:=78) Tryz.func78 (by kernel_rfl),aU (f:=79) Tryz.func79 (by kernel_rfl),trivial⟩
theorem QL:allT uU Qp (5*16):=⟨aU (f:=80) Tryz.func80 (by kernel_rfl),aU (f:=81) Tryz.func81 (by kernel_rfl),aU (f:=82) Tryz.func82 (by kernel_rfl),aU (f:=83) Tryz.func83 (by kernel_rfl),aU (f:=84) Tryz.func84 (by kernel_rfl),aU (f:=85) Tryz.func85 (by kernel_rfl),aU (f:=86) Tryz.func86 (by kernel_rfl),aU (f:=87) Tryz.func87 (by kernel_rfl),aU (f:=88) Tryz.func88 (by kernel_rfl),aU (f:=89) Tryz.func89 (by kernel_rfl),aU (f:=90) Tryz.func90 (by kernel_rfl),aU (f:=91) Tryz.func91 (by kernel_rfl),aU (f:=92) Tryz.func92 (by kernel_rfl),aU (f:=93) Tryz.func93 (by kernel_rfl),aU (f:=94) Tryz.func94 (by kernel_rfl),aU (f:=95) Tryz.func95 (by kernel_rfl),trivial⟩
theorem QM:allT uU Qq (6*16):=⟨aU (f:=96) Tryz.func96 (by kernel_rfl),aU (f:=97) Tryz.func97 (by kernel_rfl),aU (f:=98) Tryz.func98 (by kernel_rfl),aU (f:=102) Tryz.func102 (by kernel_rfl),aU (f:=103) Tryz.func103 (by kernel_rfl),aU (f:=104) Tryz.func104 (by kernel_rfl),aU (f:=105) Tryz.func105 (by kernel_rfl),aU (f:=106) Tryz.func106 (by kernel_rfl),aU (f:=107) Tryz.func107 (by kernel_rfl),aU (f:=108) Tryz.func108 (by kernel_rfl),aU (f:=109) Tryz.func109 (by kernel_rfl),aU (f:=110) Tryz.func110 (by kernel_rfl),aU (f:=111) Tryz.func111 (by kernel_rfl),trivial⟩
theorem QN:allT uU Qr (7*16):=⟨aU (f:=112) Tryz.func112 (by kernel_rfl),aU (f:=113) Tryz.func113 (by kernel_rfl),aU (f:=114) Tryz.func114 (by kernel_rfl),aU (f:=115) Tryz.func115 (by kernel_rfl),aU (f:=117) Tryz.func117 (by kernel_rfl),aU (f:=118) Tryz.func118 (by kernel_rfl),aU (f:=119) Tryz.func119 (by kernel_rfl),aU (f:=120) Tryz.func120 (by kernel_rfl),aU (f:=121) Tryz.func121 (by kernel_rfl),aU (f:=122) Tryz.func122 (by kernel_rfl),aU (f:=125) Tryz.func125 (by kernel_rfl),aU (f:=126) Tryz.func126 (by kernel_rfl),aU (f:=127) Tryz.func127 (by kernel_rfl),trivial⟩
theorem QO:allT uU Qs (8*16):=⟨aU (f:=128) Tryz.func128 (by kernel_rfl),aU (f:=129) Tryz.func129 (by kernel_rfl),aU (f:=130) Tryz.func130 (by kernel_rfl),aU (f:=131) Tryz.func131 (by kernel_rfl),aU (f:=132) Tryz.func132 (by kernel_rfl),aU (f:=133) Tryz.func133 (by kernel_rfl),aU (f:=135) Tryz.func135 (by kernel_rfl),trivial⟩
theorem QP:allT uU Qt (9*16):=⟨aU (f:=155) Tryz.func155 (by kernel_rfl),trivial⟩
theorem Pe:allT uU Oh (10*16):=trivial
theorem Pf:allT uU Oi (11*16):=⟨aU (f:=177) Tryz.func177 (by kernel_rfl),trivial⟩
theorem QQ:Fp uU 16 Qu 0:=⟨by decide,QG,by decide,QH,by decide,QI,by decide,QJ,by decide,QK,by decide,QL,by decide,QM,by decide,QN,by decide,QO,by decide,QP,by decide,Pe,by decide,Pf,trivial⟩
theorem QR (hro:∀f x,ro f=true→fnT f=some x→∀b,x.body=some b→kE (gA hand wants rtip ro pur rsh bld cutO owns glob inn mvt) b=true):bA (gA hand wants rtip ro pur rsh bld cutO owns glob inn mvt):=⟨fun t y h=>Cq (by decide) (QF hand wants rtip ro pur rsh bld cutO owns glob inn mvt) h,fun f x h=>Cq (by decide) QQ h,by kernel_rfl,fun _=>rfl,hro⟩
end
end Go.Proofs.YtgpofjbdjiajeaaGreatDoor
end
section
namespace Go.Proofs.YtgpofjbdjiajeaaGreatDoor
open Go.RowKit
def lW (c:Int):Int:=if 65≤c∧c≤90 then c+32 else c
theorem HA {c:Int} (h:0≤c∧c<256):0≤lW c∧lW c<256:=by unfold lW;split<;>omega
set_option maxHeartbeats 1000000 in
theorem lower_c (c:Int) (h:0≤c∧c<256) (w:World):Calls Tryz.prog 93 #[.int .u8 c] w fun e w' =>e= .returned (.int .u8 (lW c))∧w' =w:=by
 by_cases h1:65≤c
 ·by_cases h2:c≤90
  ·have e:lW c=c - 65+97:=by unfold lW;rw[if_pos ⟨h1,h2⟩];omega
   rw[e]
   go_enter Tryz.func93,Tryz.ntmps93
   go_wp2
   go_ret
   exact⟨rfl,rfl⟩
  ·have e:lW c=c:=by unfold lW;rw[if_neg (by omega)]
   rw[e]
   go_enter Tryz.func93,Tryz.ntmps93
   go_wp2
   go_ret
   exact⟨rfl,rfl⟩
 ·have e:lW c=c:=by unfold lW;rw[if_neg (by omega)]
  rw[e]
  go_enter Tryz.func93,Tryz.ntmps93
  go_wp2
  go_ret
  exact⟨rfl,rfl⟩
set_option maxRecDepth 100000 in
set_option maxHeartbeats 1000000 in
theorem yD (s:ByteArray) (c:Int) (w:World):Calls Tryz.prog 105 #[.string s, .int .u8 c] w fun e w' =>e= .returned (.int .i64 (Lib.indexByte s.data.toList c.toNat.toUInt8))∧w' =w:=by
 go_enter Tryz.func105,Tryz.ntmps105
 go_wp2
 rw[run_callFunc_extern Tryz.func116 (by kernel_rfl) (by kernel_rfl) (by kernel_rfl) (e:=Extern.BytealgIndexByte.indexByte) (by kernel_rfl),Lib.run_indexByteString]
 simp only[Result.andThen]
 rw[Oper.upon_value]
 go_wp2
 go_ret
 exact⟨rfl,rfl⟩
set_option maxHeartbeats 1000000 in
theorem D2 (s:ByteArray) (c:Int) (w:World):Calls Tryz.prog 82 #[.string s, .int .u8 c] w fun e w' =>e= .returned (.int .i64 (Lib.indexByte s.data.toList c.toNat.toUInt8))∧w' =w:=by
 go_enter Tryz.func82,Tryz.ntmps82
 go_wp2_with (first|(go_at_call 105;refine(yD _ _ _).mono ?_;rintro e w' ⟨rfl,hw⟩;rw[hw]))
 go_ret
 exact⟨rfl,rfl⟩
abbrev at1 (s:ByteArray) (b:UInt8):Int:=Lib.indexByte s.data.toList b
set_option maxHeartbeats 1000000 in
theorem IE (s:ByteArray) (b:UInt8) (w:World):Calls Tryz.prog 119 #[.string s, .string ⟨#[b]⟩] w fun e w' =>e= .returned (.int .i64 (at1 s b))∧w' =w:=by
 go_enter Tryz.func119,Tryz.ntmps119
 go_wp2_with (first|(go_at_call 105;refine(yD _ _ _).mono ?_;rintro e w' ⟨rfl,hw⟩;rw[hw]))
 ·have h:([b]==s.toList)=true:=by assumption
  go_ret
  refine⟨?_,rfl⟩
  have e:s.data.toList=[b]:=by rw[←Lib.toList_data];exact(beq_iff_eq.1 h).symm
  unfold at1
  rw[e]
  simp[Lib.indexByte]
 ·go_ret
  exact⟨rfl,rfl⟩
set_option maxHeartbeats 1000000 in
theorem K6 (s:ByteArray) (b:UInt8) (w:World):Calls Tryz.prog 131 #[.string s, .string ⟨#[b]⟩] w fun e w' =>e= .returned (.int .i64 (at1 s b))∧w' =w:=by
 go_enter Tryz.func131,Tryz.ntmps131
 go_wp2_with (first|(go_at_call 119;refine(IE _ _ _).mono ?_;rintro e w' ⟨rfl,hw⟩;rw[hw]))
 go_ret
 exact⟨rfl,rfl⟩
theorem info9:(Tryz.prog.info? 9).map (fun i=>(i.zero,i.size,i.bytes))=some (some (.string ByteArray.empty),1,16):=by kernel_rfl
theorem tK (b:UInt8):∀l:List UInt8,Lib.index l [b]=Lib.indexByte l b
 |[]=>rfl
 |x::l=>by
  unfold Lib.index Lib.indexByte
  rw[tK b l]
  by_cases h:x=b
  ·simp[h]
  ·simp[h,Ne.symm h]
set_option maxHeartbeats 4000000 in
set_option maxRecDepth 1000000 in
theorem HB (s:ByteArray) (b:UInt8) (n:Int) (N:Nat) (w:World) (hs:s.size<4294967281) (hn0:0<n) (hn63:n≤9223372036854775807) (hN:(N:Int)=min n ((s.size:Int)+1)):
  Calls Tryz.prog 127 #[.string s, .string ⟨#[b]⟩, .int .i64 0, .int .i64 n] w fun e w' =>
   e= .returned (.slice (some ⟨w.heap.size,0,none⟩) (Lib.splitB ⟨#[b]⟩ 0 (N - 1) s).length N)∧w' =w.alloc (.cells (Lib.cellsOf (Lib.splitB ⟨#[b]⟩ 0 (N - 1) s) N) 9):=by
 have hI:∀(x:ByteArray) (c:Array Value),Calls Tryz.prog 131 #[.string x, .string ⟨#[b]⟩] (w.alloc (.cells c 9)) fun e w' =>e= .returned (.int .i64 (Lib.indexB x ⟨#[b]⟩))∧w' =w.alloc (.cells c 9):=by
  intro x c
  have:=K6 x b (w.alloc (.cells c 9))
  have e:Lib.indexB x ⟨#[b]⟩=at1 x b:=tK b _
  rw[e];exact this
 have hne:(n==0)=false:=beq_eq_false_iff_ne.2 (by omega)
 have eN' :min n ((s.size:Int)+1)=(N:Int):=hN.symm
 have hneg:¬n<0:=by omega
 have hNs:(N:Int)≤(s.size:Int)+1:=by rw[←eN'];exact Int.min_le_right _ _
 have hN1:(1:Int)≤(N:Int):=by rw[←eN'];exact Int.le_min.2 ⟨by omega,by omega⟩
 have hmk:=run_make_row' (P:=Tryz.prog) 218 9 (.string ByteArray.empty) 16 Tryz.underlying218 info9 rfl .i64 .i64 N (by omega) (by omega)
 clear hN
 go_enter Tryz.func127,Tryz.ntmps127
 go_wp2
 clear hmk
 go_loopg [0,10] (N - 1) (fun g s0 s10 wr=>∃(done:List ByteArray) (rest:ByteArray),s0= .string rest∧s10= .int .i64 done.length∧done.length≤N - 1∧g=N - 1 - done.length∧rest.size≤s.size∧
  wr=w.alloc (.cells (Lib.cellsOf done N) 9)∧done++Lib.splitB ⟨#[b]⟩ 0 (N - 1 - done.length) rest=Lib.splitB ⟨#[b]⟩ 0 (N - 1) s)
 case atStart=>exact⟨[],s,rfl,rfl,Wd _,rfl,TY _,by rw[Lib.cellsOf_nil],rfl⟩
 case round=>
  obtain⟨done,rest,rfl,rfl,hd,rfl,hrs,rfl,hsp⟩:=hrel
  have hnext:(Lib.cellsOf done N)[done.length]? =some (.string ByteArray.empty):=Lib.cellsOf_next (by omega)
  have HS:Aside (done++Lib.splitB ⟨#[b]⟩ 0 (N - 1 - done.length) rest=Lib.splitB ⟨#[b]⟩ 0 (N - 1) s):=hsp
  clear hsp
  have fin:Lib.splitB ⟨#[b]⟩ 0 (N - 1 - done.length) rest=[rest]→(Lib.splitB ⟨#[b]⟩ 0 (N - 1) s).length=done.length+1∧(Lib.cellsOf done N).setIfInBounds done.length (.string rest)=Lib.cellsOf (Lib.splitB ⟨#[b]⟩ 0 (N - 1) s) N:=fun h=>by
   have e:=HS.out
   rw[h]at e
   rw[←e]
   exact⟨by simp,Lib.cellsOf_set (by omega) rest⟩
  by_cases hlt:done.length<N - 1
  ·have hltz:((done.length:Nat):Int)<(N:Int) - 1:=by omega
   rcases Lib.indexB_cases rest ⟨#[b]⟩with hix|⟨i,hix,hroom⟩
   ·go_wp2_with (first|(go_at_call 131;refine(hI rest _).mono ?_;rintro e w' ⟨rfl,hw⟩;rw[hw,hix]))
    go_ret
    obtain⟨f1,f2⟩:=fin (Lib.splitB_miss ⟨#[b]⟩ 0 _ rest hix)
    rw[f1,←f2]
    exact⟨by first|rfl|(congr 2<;>omega),rfl⟩
   ·have hroom:i+1≤rest.size:=hroom
    have c0:¬((i:Int)<0):=by omega
    have c1:(0:Int)≤↑i+0:=by omega
    have c2:(↑i+0:Int)≤↑rest.size:=by omega
    have c1' :(0:Int)≤↑i:=by omega
    have c2' :(↑i:Int)≤↑rest.size:=by omega
    have c3:(0:Int)≤↑i+1:=by omega
    have c4:(↑i+1:Int)≤↑rest.size:=by omega
    go_wp2_with (first|(go_at_call 131;refine(hI rest _).mono ?_;rintro e w' ⟨rfl,hw⟩;rw[hw,hix]))
    go_roundg (N - 1 - (done.length+1))
    case measure=>go_light;omega
    case rel=>
     go_light
     refine⟨done++[rest.extract 0 (i+0)],rest.extract (i+1) rest.size,rfl,by simp,by simp;omega,by simp,by rw[ByteArray.size_extract];omega,by rw[←Lib.cellsOf_set (by omega)];try simp,?_⟩
     rw[←HS.out,show N - 1 - done.length=(N - 1 - (done.length+1))+1 by omega,Lib.splitB_hit ⟨#[b]⟩ 0 _ rest i hix]
     simp
     rfl
  ·have hltz:¬(((done.length:Nat):Int)<(N:Int) - 1):=by omega
   go_wp2
   go_ret
   obtain⟨f1,f2⟩:=fin (by rw[show N - 1 - done.length=0 by omega];rfl)
   rw[f1,←f2]
   exact⟨by first|rfl|(congr 2<;>omega),rfl⟩
set_option maxHeartbeats 1000000 in
theorem K7 (s:ByteArray) (b:UInt8) (n:Int) (N:Nat) (w:World) (hs:s.size<4294967281) (hn0:0<n) (hn63:n≤9223372036854775807) (hN:(N:Int)=min n ((s.size:Int)+1)):
  Calls Tryz.prog 121 #[.string s, .string ⟨#[b]⟩, .int .i64 n] w fun e w' =>
   e= .returned (.slice (some ⟨w.heap.size,0,none⟩) (Lib.splitB ⟨#[b]⟩ 0 (N - 1) s).length N)∧w' =w.alloc (.cells (Lib.cellsOf (Lib.splitB ⟨#[b]⟩ 0 (N - 1) s) N) 9):=by
 go_enter Tryz.func121,Tryz.ntmps121
 go_wp2_with (first|(go_at_call 127;refine(HB s b n N _ hs hn0 hn63 hN).mono ?_;rintro e w' ⟨rfl,hw⟩;rw[hw]))
 go_ret
 exact⟨rfl,rfl⟩
structure lM (w:World) (s:ByteArray) (k:Nat) (wr:World):Prop where
 size:wr.heap.size=w.heap.size+1
 old:∀b,b<w.heap.size→wr.heap[b]? =w.heap[b]?
 os:wr.os=w.os
 out:wr.output=w.output
 tape:wr.tape=w.tape
 row:∃(cs:Array Value) (fr:Nat×Nat),wr.heap[w.heap.size]? =some (.cells cs 5 fr)∧s.size≤cs.size∧s.size≤fr.1∧
  ∀j,j<s.size→cs[j]? =some (.int .u8 (if j<k then lW (s.data.toList.getD j 0).toNat else(s.data.toList.getD j 0).toNat))
theorem lM.start (w:World) (s:ByteArray):lM w s 0 (Lib.bytesWorld w 5 s):=by
 have hge:=grownCap_ge w s.size 0 5
 have hsz:(Lib.bytesCells w 5 s).size=grownCap w s.size 0 5:=by simp[Lib.bytesCells];omega
 refine⟨Lib.bytesWorld_size w 5 s,fun b hb=>Lib.bytesWorld_at_old w 5 s b hb,?_,?_,?_,_,_,Lib.bytesWorld_at_new w 5 s,by omega,by simp only[];omega,fun j hj=>?_⟩
 iterate 3 (unfold Lib.bytesWorld World.freeze;split<;>rfl)
 have:=Lib.bytesWorld_cell w 5 s j hj
 simp only[World.cell?,Lib.bytesWorld_at_new]at this
 simpa using this
theorem lM.store {w wr:World} {s:ByteArray} {k:Nat} (h:lM w s k wr) (hk:k<s.size):
  lM w s (k+1) (wr.setCell ⟨w.heap.size,k,none⟩ (.int .u8 (lW (s.data.toList.getD k 0).toNat))):=by
 obtain⟨h1,h2,h3,h4,h5,cs,fr,h6,h7,h8,h9⟩:=h
 have hat:(wr.setCell ⟨w.heap.size,k,none⟩ (.int .u8 (lW (s.data.toList.getD k 0).toNat))).heap[w.heap.size]? =some (.cells (cs.setIfInBounds k (.int .u8 (lW (s.data.toList.getD k 0).toNat))) 5 fr):=by
  unfold World.setCell
  rw[Vs,if_pos rfl,h6]
  rfl
 refine⟨by simp[World.setCell,h1],fun b hb=>?_,h3,h4,h5,_,_,hat,by simpa using h7,h8,fun j hj=>?_⟩
 ·have hne:¬(w.heap.size=b):=by omega
  unfold World.setCell
  rw[Vs,if_neg hne,h2 b hb]
 ·rw[Array.getElem?_setIfInBounds]
  by_cases hjk:k=j
  ·subst hjk
   rw[if_pos rfl,if_pos (by omega),if_pos (Nat.lt_succ_self _)]
  ·rw[if_neg hjk,h9 j hj]
   by_cases hlt:j<k
   ·rw[if_pos hlt,if_pos (by omega)]
   ·rw[if_neg hlt,if_neg (by omega)]
theorem bytes_foldl:∀(ns:List Int) (s:ByteArray),ns.foldl (fun r n=>r.push (Uo n.toNat)) s=⟨(s.data.toList++ns.map fun n=>Uo n.toNat).toArray⟩
 |[],s=>by simp
 |n::ns,s=>by
  rw[V9,bytes_foldl ns]
  congr 1
  simp[ByteArray.push]
theorem lM.text {w wr:World} {s:ByteArray} (h:lM w s s.size wr) (cap:Nat):
  (convert 22 9 (.slice (some ⟨w.heap.size,0,none⟩) s.size cap)).run Tryz.prog wr= .ok (.string ⟨(s.data.toList.map fun b=>Uo (lW b.toNat).toNat).toArray⟩) wr:=by
 rw[run_convert_bytes_string wr 22 9 5 _ _ _ Tryz.underlying22 Tryz.underlying5 Tryz.underlying9]
 obtain⟨h1,h2,h3,h4,h5,cs,fr,h6,h7,h8,h9⟩:=h
 have hl:s.data.toList.length=s.size:=(Lib.size_eq s).symm
 have hld:=run_loadCells_list (P:=Tryz.prog) wr ⟨w.heap.size,0,none⟩ ((s.data.toList.map fun b=>lW b.toNat).map (Value.int .u8)) (fun j v hj=>by
  have hlt:=(TQ.1 hj).1
  simp[hl]at hlt
  have:=h9 j hlt
  rw[if_pos hlt]at this
  rw[Addr.add_lit]
  simp only[World.cell?,UD,h6]
  have hv:v= .int .u8 (lW (s.data.toList.getD j 0).toNat):=by
   simp only[UC]at hj
   rw[TP (by omega)]at hj
   simp at hj
   rw[←hj];simp[Ul,hlt]
  rw[hv];simpa using this)
 have hlen:((s.data.toList.map fun b=>lW b.toNat).map (Value.int .u8)).length=s.size:=by simp[hl]
 rw[hlen]at hld
 rw[run_bytesToString wr _ _ _ _ hld,bytes_foldl]
 simp[Function.comp_def]
set_option maxHeartbeats 1000000 in
theorem Pg (s:ByteArray) (w:World) (hs:s.size<4294967281):Calls Tryz.prog 65 #[.string s] w fun e w' =>
  e= .returned (.string ⟨(s.data.toList.map fun b=>Uo (lW b.toNat).toNat).toArray⟩)∧lM w s s.size w' :=by
 have hconv:=Lib.run_convert_string_bytes (P:=Tryz.prog) w 9 22 5 s Tryz.underlying9 Tryz.underlying22 Tryz.underlying5
 go_enter Tryz.func65,Tryz.ntmps65
 go_wp2
 clear hconv
 go_loopg [9] s.size (fun g s9 wr=>∃k:Nat,s9= .int .i64 k∧k≤s.size∧g=s.size - k∧lM w s k wr)
 case atStart=>exact⟨0,rfl,Wd _,rfl,lM.start w s⟩
 case round=>
  obtain⟨k,rfl,hk,rfl,hF⟩:=hrel
  by_cases hlt:k<s.size
  ·have hltz:(k:Int)<(s.size:Int):=by omega
   obtain⟨cs,fr,h6,h7,h8,h9⟩:=hF.row
   have hcell:wr.cell? ⟨w.heap.size,k,none⟩=some (.int .u8 (s.data.toList.getD k 0).toNat):=by
    have:=h9 k hlt
    rw[if_neg (Wg _)]at this
    simp only[World.cell?,h6];simpa using this
   have hfz:wr.frozen? ⟨w.heap.size,k,none⟩=false:=by
    unfold World.frozen?
    simp only[h6]
    simp;omega
   have hb:0≤((s.data.toList.getD k 0).toNat:Int)∧((s.data.toList.getD k 0).toNat:Int)<256:=⟨by omega,by have:=(s.data.toList.getD k 0).toNat_lt;omega⟩
   obtain⟨x,hx⟩:∃x:Int,x=((s.data.toList.getD k 0).toNat:Int):=⟨_,rfl⟩
   rw[←hx]at hcell hb
   have HF:Aside (lM w s k wr∧x=((s.data.toList.getD k 0).toNat:Int)):=⟨hF,hx⟩
   clear hF h6 h7 h8 h9 hx
   have h33:=lower_c x hb wr
   go_wp2_with (first|(go_at_call 93;refine h33.mono ?_;rintro e w' ⟨rfl,hw⟩;rw[hw]))
   go_roundg (s.size - (k+1))
   case measure=>go_light;omega
   case rel=>
    go_light
    obtain⟨hF,hx⟩:=HF.out
    refine⟨k+1,by push_cast;rfl,by omega,by omega,?_⟩
    rw[hx]
    exact hF.store hlt
  ·have hltz:¬((k:Int)<(s.size:Int)):=by omega
   obtain rfl:k=s.size:=by omega
   have htx:=hF.text (grownCap w s.size 0 5)
   go_wp2
   go_ret
   exact⟨rfl,hF⟩
end Go.Proofs.YtgpofjbdjiajeaaGreatDoor
end
section
namespace Go.Rg
open Go.RowKit Go.Shelf
structure Kept (T:World→Nat→Prop) (W W' :World):Prop where
 size:W.heap.size≤W'.heap.size
 block:∀j,j<W.heap.size→¬T W j→W'.heap[j]? =W.heap[j]?∧¬T W' j
structure Abides (base:World) (J:Nat→World→Prop) (T:World→Nat→Prop):Prop where
 step:∀i W W' row,J i W→W.grownBy W' row→(∀r,row=some r→base.heap.size≤r∧¬T W r)→J i W'∧∀r,T W' r→T W r
 lt:∀i W r,J i W→T W r→r<W.heap.size
 old:∀i W,J i W→Below base.heap.size base W
def Rounds {α:Type} (P:Program) (l:Nat) (enc:α→Value) (xs:List α) (J:Nat→World→Prop) (Jx:World→Prop) (T:World→Nat→Prop):Prop:=
 ∀i x W,xs[i]? =some x→J i W→YieldAt Fence.wide 0 P l #[enc x] W fun e W' =>
  (e= .returned (.bool true)∧J (i+1) W'∧Kept T W W')∨(e= .returned (.bool false)∧Jx W')
def Fq {α:Type} (P:Program) (g:Nat) (lb:Array Value) (enc:α→Value) (xs:List α) (base:World):Prop:=
 ∀(l:Nat) (J:Nat→World→Prop) (Jx:World→Prop) (T:World→Nat→Prop) (W:World),Abides base J T→Rounds P l enc xs J Jx T→J 0 W→
  CallsIn Fence.wide 1 P g (#[.func (.yield l) #[] #[]]++lb) W fun e W' =>(∃v,e= .returned v)∧(J xs.length W'∨Jx W')
structure Ph (X:Nat→Prop) (base W:World):Prop where
 size:base.heap.size≤W.heap.size
 block:∀b,b<base.heap.size→¬X b→W.heap[b]? =base.heap[b]?
theorem Ph.cell {X:Nat→Prop} {base W:World} (h:Ph X base W) {p:Addr} (hp:p.block<base.heap.size) (hx:¬X p.block):W.cell? p=base.cell? p:=World.cell?_of_block (h.block _ hp hx)
structure M1 (X:Nat→Prop) (base:World) (J:Nat→World→Prop) (T:World→Nat→Prop):Prop where
 step:∀i W W' row,J i W→W.grownBy W' row→(∀r,row=some r→base.heap.size≤r∧¬T W r)→J i W'∧∀r,T W' r→T W r
 lt:∀i W r,J i W→T W r→r<W.heap.size
 old:∀i W,J i W→Ph X base W
def D3 {α:Type} (X:Nat→Prop) (P:Program) (g:Nat) (lb:Array Value) (enc:α→Value) (xs:List α) (base:World):Prop:=
 ∀(l:Nat) (J:Nat→World→Prop) (Jx:World→Prop) (T:World→Nat→Prop) (W:World),M1 X base J T→Rounds P l enc xs J Jx T→J 0 W→
  CallsIn Fence.wide 1 P g (#[.func (.yield l) #[] #[]]++lb) W fun e W' =>(∃v,e= .returned v)∧(J xs.length W'∨Jx W')
theorem D3.tells {α:Type} {P:Program} {g:Nat} {lb:Array Value} {enc:α→Value} {xs:List α} {base:World} (h:D3 (fun _=>False) P g lb enc xs base):Fq P g lb enc xs base:=
 fun l J Jx T W hab hR h0=>h l J Jx T W ⟨hab.step,hab.lt,fun i W h=>⟨(hab.old i W h).size,fun b hb _=>(hab.old i W h).block b hb⟩⟩ hR h0
theorem grownBy_putObj (W:World) (l:Nat) (o:Obj):W.grownBy (W.putObj l o) (some l):=
 ⟨rfl,rfl,rfl,by simp,fun k _ hk=>World.putObj_heap_other (fun e=>hk (by rw[e]))⟩
theorem grownBy_setCell (W:World) (a:Addr) (v:Value):W.grownBy (W.setCell a v) (some a.block):=
 ⟨rfl,rfl,rfl,by simp[World.setCell],fun k _ hk=>Below.heap_setCell _ _ _ k (fun e=>hk (by rw[e]))⟩
theorem ownsRow_ne {W:World} {base:Nat} {e:TypeId} {size:Nat} {v:Value} {k:Nat} {xs:List Value} (h:W.ownsRow base e size v k xs) {j:Nat} {o:Obj} (hj:W.heap[j]? =some o) (hno:∀cur,o≠ .cells cur e (0,0)):
  v.ownBlock=none∨v.ownBlock≠some j:=by
 rcases h.2 with⟨rfl,_⟩|⟨g,cap,cur,rfl,_,hgb,_⟩
 ·exact .inl rfl
 ·refine .inr fun e' =>?_
  have:g=j:=by simpa[Value.ownBlock]using e'
  subst this;rw[hgb]at hj;cases hj;exact hno cur rfl
theorem ownsRow_base {W:World} {base base' :Nat} {e:TypeId} {size:Nat} {v:Value} {k:Nat} {xs:List Value} (h:W.ownsRow base e size v k xs) (hb:base'≤base):W.ownsRow base' e size v k xs:=by
 refine⟨h.1,?_⟩
 rcases h.2 with hn|⟨g,cap,cur,hv,hbg,rest⟩
 ·exact .inl hn
 ·exact .inr ⟨g,cap,cur,hv,Uy hb hbg,rest⟩
structure K8 (base:World) (ts te:TypeId) (size:Nat) (rec:Loop) (Bs l D:Nat) (xs:List Value) (n:Nat) (W:World):Prop where
 box:∃v,Boxed W Bs ts v∧W.ownsRow base.heap.size te size v n xs∧(v= .slice none 0 0↔n=0)
 L:W.heap[l]? =some (.loop rec)
 K:W.heap[D]? =some (.deferred (some []))
 below:Below base.heap.size base W
def K9 (ts:TypeId) (Bs l D:Nat) (W:World) (r:Nat):Prop:=r<W.heap.size∧(r=Bs∨r=l∨r=D∨∃v,Boxed W Bs ts v∧v.ownBlock=some r)
theorem Ft (base:World) (ts te:TypeId) (size:Nat) (rec:Loop) (Bs l D:Nat) (f:Nat→List Value):Abides base (fun i W=>K8 base ts te size rec Bs l D (f i) i W) (K9 ts Bs l D) where
 step:=fun i W W' row h hg hrow=>by
  obtain⟨v,hv,hr,hn⟩:=h.box
  have hlt:=hv.lt
  have hll:l<W.heap.size:=(TX.1 h.L).1
  have hKl:D<W.heap.size:=(TX.1 h.K).1
  have hB:W'.heap[Bs]? =W.heap[Bs]? :=hg.block Bs hlt fun e=>(hrow Bs e.symm).2 ⟨hlt, .inl rfl⟩
  refine⟨⟨⟨v,hB.trans hv,hr.kept hg ?_,hn⟩,(hg.block l hll fun e=>(hrow l e.symm).2 ⟨hll, .inr (.inl rfl)⟩).trans h.L,
   (hg.block D hKl fun e=>(hrow D e.symm).2 ⟨hKl, .inr (.inr (.inl rfl))⟩).trans h.K,h.below.grown hg h.below.size fun k e=>(hrow k e).1⟩,?_⟩
  ·cases hvb:v.ownBlock with
   |none=>exact .inl rfl
   |some g=>
    right
    intro e
    exact(hrow g e.symm).2 ⟨(hr.lt g hvb).2, .inr (.inr (.inr ⟨v,hv,hvb⟩))⟩
  ·rintro r ⟨hr',h1⟩
   have hall:r=Bs∨r=l∨r=D∨v.ownBlock=some r:=by
    rcases h1 with h1|h1|h1|⟨v',hv',h1⟩
    ·exact .inl h1
    ·exact .inr (.inl h1)
    ·exact .inr (.inr (.inl h1))
    ·have:v' =v:=by
      have h2:Boxed W Bs ts v' :=hB.symm.trans hv'
      have h3:=h2.symm.trans hv
      simpa using h3
     subst this
     exact .inr (.inr (.inr h1))
   rcases hall with rfl|rfl|rfl|h1
   ·exact⟨hlt, .inl rfl⟩
   ·exact⟨hll, .inr (.inl rfl)⟩
   ·exact⟨hKl, .inr (.inr (.inl rfl))⟩
   ·exact⟨(hr.lt r h1).2, .inr (.inr (.inr ⟨v,hv,h1⟩))⟩
 lt:=fun i W r _ ht=>ht.1
 old:=fun i W h=>h.below
section
variable {P : Program} (w : World)
theorem D4 (base:Nat) (t ty e:TypeId) (i:TypeInfo) (z:Value) (size bytes:Nat) (ht:P.underlying t=some (.slice e)) (hi:P.info? e=some i) (hz:i.zero=some z)
  (hsize:i.size=size) (hby:i.bytes=bytes)
  (v:Value) (n:Nat) (xs:List Value) (hown:w.ownsRow base e size v n xs)
  (a:Addr) (m c:Nat) (news:List Value) (hl:news.length=m*size) (hnews:∀j u,news[j]? =some u→w.cell? (a.add j)=some u) (h1:∀u∈news,u.oneCell' =true)
  (h63:n+m≤maxLen) (hbytes:(n+m)*bytes≤140737488355328) (hm:0<m) (v' :Value) (w' :World)
  (hrun:(Builtin.append_ #[t,t] ty #[v, .slice (some a) m c]).run P w= .ok v' w'):v'.ownBlock=v.ownBlock∨v'.ownBlock=some w.heap.size:=by
 subst hsize
 subst hby
 have hsmall:n+m≤9223372036854775807:=by simp only[maxLen]at h63;omega
 rcases hown.2 with⟨rfl,rfl⟩|⟨g,cap,cur,rfl,hbg,hg,hnc,hcm,hcs,htake⟩
 ·have hx:xs=[]:=Ue (by simpa using hown.1)
  subst hx
  have hr:=run_append_nil (P:=P) w t ty e i z ht hi hz a m c news hl hnews (by omega) (by omega) (by have hb:=hbytes;simp only[UD]at hb;omega)
  rw[hr]at hrun
  cases hrun
  exact .inr rfl
 ·by_cases hroom:n+m≤cap
  ·have hfit:n*i.size+news.length≤cur.size:=by rw[hl,hcs,←Vh];exact Vi _ hroom
   have hr:=run_append_room (P:=P) w t ty e i ht hi g n cap cur hg a m c news hl hnews h1 hroom hfit
   rw[hr]at hrun
   cases hrun
   exact .inl rfl
  ·have holds:∀j u,xs[j]? =some u→w.cell? ((⟨g,0,none⟩:Addr).add j)=some u:=hown.cells (g:=g) rfl
   have hr:=run_append_grow (P:=P) w t ty e i z ht hi hz ⟨g,0,none⟩ n cap xs hown.1 holds a m c news hl hnews (by omega) (by omega) (growslice_fits (by omega) hbytes)
   rw[hr]at hrun
   cases hrun
   exact .inr rfl
end
theorem pP {F:Fence} {n:Nat} {P:Program} (w:World) {ops:Array Oper} {rest:List Oper} {o:Oper} {a:Act} {Q:Exit→Act→World→Prop}
  (hg:o.guard=none) (s x:Operand) (t:TypeId) (hop:o.op=Op.call { callee:=Callee.builtin Builtin.append,args:=#[s,x],argTypes:=#[t,t] })
  (base:Nat) (e:TypeId) (i:TypeInfo) (z:Value) (size bytes:Nat) (h1:P.underlying t=some (.slice e)) (h2:P.info? e=some i) (h3:i.zero=some z) (h4:i.size=size) (h5:i.bytes=bytes) (h6:z.cells.size=size) (h7:0<size)
  (v:Value) (k:Nat) (xs:List Value) (hs:a.eval s=v) (hown:w.ownsRow base e size v k xs) (ad:Addr) (m c:Nat) (news:List Value) (hx:a.eval x= .slice (some ad) m c) (hn:news.length=m*size)
  (hm:0<m) (hc:∀j u,news[j]? =some u→w.cell? (ad.add j)=some u) (h1c:∀u∈news,u.oneCell' =true) (b1:k+m≤maxLen) (b2:(k+m)*bytes≤140737488355328) (b3:base≤w.heap.size)
  (hK:∀v' w',w'.ownsRow base e size v' (k+m) (xs++news)→w.grownBy w' v.ownBlock→(v'.ownBlock=v.ownBlock∨v'.ownBlock=some w.heap.size)→wpListIn F n P ops Q rest (a.put o.dst v') w'):
  wpListIn F n P ops Q (o::rest) a w:=by
 refine wpListIn_plain hg fun K hK' =>?_
 obtain⟨v',w',hrun,r1,r2,r3⟩:=run_append_own (P:=P) w base t o.type e i z size bytes h1 h2 h3 h4 h5 h6 h7 v k xs hown ad m c news hn hc h1c b1 b2 b3
 have r4:=D4 (P:=P) w base t o.type e i z size bytes h1 h2 h3 h4 h5 v k xs hown ad m c news hn hc h1c b1 b2 hm v' w' hrun
 unfold Oper.wpIn
 refine⟨?_,?_⟩
 ·simp[Oper.about,hop,resolve,Target.leads,Sem.run_pure]
 ·rw[Oper.semAt_plain F _ _ (by rw[hop];intro c hc';cases hc')]
  simp[execOp,hop,resolve,invoke,builtin,hs,hx,hrun,Result.andThen]
  exact hK' _ _ (hK v' w' r1 r2 r4)
end Go.Rg
end
section
namespace Go.Proofs.YtgpofjbdjiajeaaGreatDoor
open Go.RowKit Go.Shelf Go.Rg
attribute [local go_sem] Oper.semAt_some
def eK (x:Nat×Nat×Nat):Value:= .agg #[.int .i64 x.1, .int .i64 x.2.1, .int .i64 x.2.2]
def wU (x:Nat×Nat×Nat):List Value:=[.int .i64 x.1, .int .i64 x.2.1, .int .i64 x.2.2]
noncomputable def apAssign : Code := (Code.region 2 #[{ dst := some 5, op := Op.alloc 128, type := 0, pos := "iter.go:51", after := #[], guard := none }, { dst := none, op := Op.store 128 (Operand.tmp 5) (Operand.tmp 7), type := 0, pos := "iter.go:51", after := #[{ on := 0, ground := Ground.data }, { on := 0, ground := Ground.phase }], guard := none }] false)
noncomputable def apBody : Code := (Code.block 1 (Code.region 3 #[{ dst := some 8, op := Op.load 125 (Operand.tmp 2), type := 125, pos := "iter.go:52", after := #[], guard := none }, { dst := some 9, op := Op.load 128 (Operand.tmp 5), type := 128, pos := "iter.go:52", after := #[], guard := none }, { dst := some 10, op := Op.buildSlice 125 1 #[(0, Operand.tmp 9)], type := 125, pos := "iter.go:52", after := #[{ on := 1, ground := Ground.data }], guard := none }, { dst := some 11, op := Op.call { callee := Callee.builtin Builtin.append, args := #[Operand.tmp 8, Operand.tmp 10], argTypes := #[125, 125] }, type := 125, pos := "iter.go:52", after := #[{ on := 0, ground := Ground.data }, { on := 2, ground := Ground.data }], guard := none }, { dst := none, op := Op.store 125 (Operand.tmp 2) (Operand.tmp 11), type := 0, pos := "iter.go:52", after := #[{ on := 3, ground := Ground.data }, { on := 3, ground := Ground.chain }, { on := 0, ground := Ground.phase }, { on := 1, ground := Ground.phase }, { on := 2, ground := Ground.phase }, { on := 3, ground := Ground.phase }], guard := none }] false))
noncomputable def apRec (fn:FuncId) (sv:Value) (Bs D:Nat) (st:LoopState) (pend:Option Code):Loop:=
 { state:=st,pending:=pend,fn,tmps:=#[.slice none 0 0,sv, .pointer (some ⟨Bs,0,none⟩),undef, .slice none 0 0,undef,sv,undef,undef,undef,undef,undef,undef],params:=#[7],assign:=apAssign,body:=apBody,defers:=D }
theorem Pi:(Tryz.prog.info? 128).map (fun i=>(i.zero,i.size,i.bytes))=some (some (.agg #[.int .i64 0, .int .i64 0, .int .i64 0]),3,24):=by kernel_rfl
set_option maxRecDepth 100000 in
set_option maxHeartbeats 2000000 in
theorem apYield (base:World) (fn:FuncId) (sv:Value) (Bs l D:Nat) (hBl:Bs≠l) (hDl:D≠l) (hDB:D≠Bs) (h0B:base.heap.size≤Bs) (h0l:base.heap.size≤l)
  (N:Nat) (hN:N≤maxLen) (hNb:N*24≤140737488355328) (xs:List Value) (n:Nat) (x:Nat×Nat×Nat) (W:World) (h:K8 base 125 128 3 (apRec fn sv Bs D .ready none) Bs l D xs n W) (hlen:n<N):
  YieldAt Fence.wide 0 Tryz.prog l #[eK x] W fun e W' =>e= .returned (.bool true)∧K8 base 125 128 3 (apRec fn sv Bs D .ready none) Bs l D (xs++wU x) (n+1) W'∧Kept (K9 125 Bs l D) W W' :=by
 obtain⟨i0,hi,hz0,hz1,hz2⟩:=info_parts Pi
 obtain⟨v,hv,hrow,_⟩:=h.box
 refine⟨fn,#[.slice none 0 0,sv, .pointer (some ⟨Bs,0,none⟩),undef, .slice none 0 0,undef,sv,eK x,undef,undef,undef,undef,undef],apAssign,apBody,by simpa[apRec]using run_yield (P:=Tryz.prog) (args:=#[eK x]) h.L rfl,roundIn_of_wpIn trivial ?_⟩
 have hl:l<W.heap.size:=(TX.1 h.L).1
 unfold apAssign eK
 gi_wp2_with (rw[Oper.semAt_eq _ _ _ (fun c h=>by cases h)];go_simp;try go_bits)
 obtain⟨Wa,hWa⟩:∃Wa,W.alloc (.cells #[.int .i64 x.1, .int .i64 x.2.1, .int .i64 x.2.2] 128)=Wa:=⟨_,rfl⟩
 have hsa:Wa.heap.size=W.heap.size+1:=by rw[←hWa];simp
 have hga:W.grownBy Wa none:=by rw[←hWa];exact World.grownBy_alloc _ _ _
 have hxa:Wa.heap[W.heap.size]? =some (.cells #[.int .i64 x.1, .int .i64 x.2.1, .int .i64 x.2.2] 128 (0,0)):=by rw[←hWa];exact World.alloc_heap_new W _
 rw[hWa]
 clear hWa
 have hLa:=(hga.block l hl (by simp)).trans h.L
 have hla:l<Wa.heap.size:=by omega
 have hbr:=run_beginRound (P:=Tryz.prog) hLa rfl
 obtain⟨W2,hW2⟩:∃W2,Wa.putObj l (.loop { apRec fn sv Bs D .ready none with state:= .busy })=W2:=⟨_,rfl⟩
 rw[hW2]at hbr
 have hga2:Wa.grownBy W2 (some l):=by rw[←hW2];exact grownBy_putObj _ _ _
 have hs2:W2.heap.size=W.heap.size+1:=by rw[←hW2];simp[World.putObj,hsa]
 have hva:Boxed Wa Bs 125 v:=hv.kept hga (by simp)
 have hv2:Boxed W2 Bs 125 v:=hva.kept hga2 (by simpa using hBl)
 have hxlt:W.heap.size<Wa.heap.size:=by omega
 have hxl:W.heap.size≠l:=by omega
 have hx2:W2.heap[W.heap.size]? =some (.cells #[.int .i64 x.1, .int .i64 x.2.1, .int .i64 x.2.2] 128 (0,0)):=(hga2.block _ hxlt (by simpa using hxl)).trans hxa
 have hKl:D<W.heap.size:=(TX.1 h.K).1
 have hK2:W2.heap[D]? =some (.deferred (some [])):=(hga2.block D (by omega) (by simpa using hDl)).trans ((hga.block D hKl (by simp)).trans h.K)
 have hL2:W2.heap[l]? =some (.loop { apRec fn sv Bs D .ready none with state:= .busy }):=by rw[←hW2];exact World.putObj_heap_same hla
 have hrowa:Wa.ownsRow base.heap.size 128 3 v n xs:=hrow.kept hga (by cases v.ownBlock<;>simp)
 have hrow2:W2.ownsRow base.heap.size 128 3 v n xs:=hrowa.kept hga2 (ownsRow_ne hrowa hLa (fun cur e=>by cases e))
 have hb2:Below base.heap.size base W2:=(h.below.grown hga h.below.size (fun k e=>by cases e)).grown hga2 (by have:=h.below.size;omega) (fun k e=>by cases e;exact h0l)
 have hc2:=hv2.cell
 have hf2:=hv2.frozen
 have hx20:W2.cell? ⟨W.heap.size,0,none⟩=some (.int .i64 x.1):=by simp[World.cell?,hx2]
 have hx21:W2.cell? ⟨W.heap.size,1,none⟩=some (.int .i64 x.2.1):=by simp[World.cell?,hx2]
 have hx22:W2.cell? ⟨W.heap.size,2,none⟩=some (.int .i64 x.2.2):=by simp[World.cell?,hx2]
 clear hW2
 have HS2:Hid (W2.heap.size=W.heap.size+1):=hs2
 clear hs2
 refine⟨W2,hbr,?_⟩
 unfold apBody
 gi_wp2_with (first
  |(gi_at_builtin;refine pP _ rfl _ _ 125 rfl base.heap.size 128 i0 (.agg #[.int .i64 0, .int .i64 0, .int .i64 0]) 3 24 Tryz.underlying125 hi hz0 hz1 hz2 rfl (by decide) _ _ _ rfl (hrow2.alloc _) ⟨W2.heap.size,0,none⟩ 1 1 (wU x) rfl rfl (by decide) ?c1 ?c2 ?c3 ?c4 ?c5 ?_
    case c1=>intro j u hu;rw[Addr.add_lit];have:=World.alloc_heap_new W2 (.cells #[.int .i64 x.1, .int .i64 x.2.1, .int .i64 x.2.2] 128);simp only[World.cell?,UD];rw[this];exact(by simpa[wU]using hu)
    case c2=>intro u hu;simp[wU]at hu;rcases hu with rfl|rfl|rfl<;>rfl
    case c3=>omega
    case c4=>omega
    case c5=>have:=hb2.size;simp;omega
    intro v' w3 hown' hg3 hwh
    have hv2a:=hv2.alloc (.cells #[.int .i64 x.1, .int .i64 x.2.1, .int .i64 x.2.2] 128)
    have hv3:Boxed w3 Bs 125 v:=hv2a.kept hg3 (hv2.not_row (by decide) hrow2)
    have hc3:=hv3.cell
    have hf3:=hv3.frozen
    obtain⟨g',cap',rfl⟩:=ownsRow_succ hown'
    simp only[Act.put,List.setIfInBounds_toArray,VG,V5])
  |(rw[Oper.semAt_eq _ _ _ (fun c h=>by cases h)];go_simp;try go_bits))
 have hs2:=HS2.out
 have hg3' :(W2.alloc (.cells #[.int .i64 x.1, .int .i64 x.2.1, .int .i64 x.2.2] 128)).grownBy w3 v.ownBlock:=hg3
 have ne_of:∀{j:Nat} {o:Obj},W2.heap[j]? =some o→(∀cur,o≠ .cells cur 128 (0,0))→some j≠v.ownBlock:=fun hj hno=>by
  rcases ownsRow_ne hrow2 hj hno with e|e
  ·rw[e];simp
  ·exact fun e' =>e e'.symm
 have hl2:l<W2.heap.size:=by omega
 have hD2:D<W2.heap.size:=by omega
 have hL3:w3.heap[l]? =some (.loop { apRec fn sv Bs D .ready none with state:= .busy }):=(hg3'.block l (by simp;omega) (ne_of hL2 (fun cur e=>by cases e))).trans ((Below.heap_alloc _ _ l hl2).trans hL2)
 have hK3:w3.heap[D]? =some (.deferred (some [])):=(hg3'.block D (by simp;omega) (ne_of hK2 (fun cur e=>by cases e))).trans ((Below.heap_alloc _ _ D hD2).trans hK2)
 have hs3:W.heap.size+2≤w3.heap.size:=by have:=hg3'.size;simp at this;omega
 obtain⟨w4,hw4⟩:∃w4,w3.setCell ⟨Bs,0,none⟩ (.slice (some ⟨g',0,none⟩) (n+1) cap')=w4:=⟨_,rfl⟩
 rw[hw4]
 have hg4:w3.grownBy w4 (some Bs):=by rw[←hw4];exact grownBy_setCell _ _ _
 have hv4:Boxed w4 Bs 125 (.slice (some ⟨g',0,none⟩) (n+1) cap'):=by rw[←hw4];exact hv3.set _
 have hL4:w4.heap[l]? =some (.loop { apRec fn sv Bs D .ready none with state:= .busy }):=(hg4.block l (TX.1 hL3).1 (fun e=>hBl (by cases e;rfl))).trans hL3
 have hK4:w4.heap[D]? =some (.deferred (some [])):=(hg4.block D (TX.1 hK3).1 (fun e=>hDB (by cases e;rfl))).trans hK3
 have hrow4:=hown'.kept hg4 (.inr (hv3.not_row (by decide) hown').symm)
 have hs4:w3.heap.size=w4.heap.size:=by rw[←hw4];simp[World.setCell]
 have hl4:l<w4.heap.size:=by omega
 have hb3:Below base.heap.size base w3:=(hb2.alloc hb2.size _).grown hg3' (by have:=hb2.size;simp;omega) (fun k e=>(hrow2.lt k e).1)
 have hb4:Below base.heap.size base w4:=hb3.grown hg4 hb3.size (fun k e=>by cases e;exact h0B)
 clear hw4
 have hg5:w4.grownBy (w4.putObj l (.loop { { apRec fn sv Bs D .ready none with state:= .busy } with state:=if(none:Option Code).isNone then .ready else .done,pending:=none })) (some l):=grownBy_putObj _ _ _
 have hv5:=hv4.kept hg5 (by simpa using hBl)
 have hrow5:=hrow4.kept hg5 (ownsRow_ne hrow4 hL4 (fun cur e=>by cases e))
 refine⟨_,_,run_endRound none hL4,rfl,⟨⟨_,hv5,hrow5,by simp⟩,World.putObj_heap_same hl4,(World.putObj_heap_other hDl).trans hK4,hb4.grown hg5 hb4.size (fun k e=>by cases e;exact h0l)⟩,?_,?_⟩
 ·exact Uy (by omega) hg5.size
 ·intro j hj hT
  have hjB:j≠Bs:=fun e=>hT ⟨hj, .inl e⟩
  have hjl:j≠l:=fun e=>hT ⟨hj, .inr (.inl e)⟩
  have hjD:j≠D:=fun e=>hT ⟨hj, .inr (.inr (.inl e))⟩
  have hjv:some j≠v.ownBlock:=fun e=>hT ⟨hj, .inr (.inr (.inr ⟨v,hv,e.symm⟩))⟩
  have e1:=hga.block j hj (by simp)
  have e2:=hga2.block j (by omega) (by simpa using hjl)
  have e3:=Below.heap_alloc W2 (.cells #[.int .i64 x.1, .int .i64 x.2.1, .int .i64 x.2.2] 128) j (by omega)
  have e4:=hg3'.block j (by simp;omega) hjv
  have e5:=hg4.block j (by omega) (by simpa using hjB)
  have e6:=hg5.block j (by omega) (by simpa using hjl)
  refine⟨e6.trans (e5.trans (e4.trans (e3.trans (e2.trans e1)))),?_⟩
  rintro⟨_,h1|h1|h1|⟨v',hv',h1⟩⟩
  ·exact hjB h1
  ·exact hjl h1
  ·exact hjD h1
  ·have h3:=(show _=_ from hv').symm.trans hv5
   simp at h3
   subst h3
   have hwh' :(some g' =v.ownBlock∨some g' =some (W2.alloc (.cells #[.int .i64 x.1, .int .i64 x.2.1, .int .i64 x.2.2] 128)).heap.size):=hwh
   have h1' :g' =j:=by simpa[Value.ownBlock]using h1
   subst h1'
   rcases hwh' with e|e
   ·exact hjv e
   ·simp at e;omega
end Go.Proofs.YtgpofjbdjiajeaaGreatDoor
end
section
namespace Go.Proofs.YtgpofjbdjiajeaaGreatDoor
open Go.RowKit Go.Shelf Go.Rg
attribute [local go_sem] Oper.semAt_some
def gQ (xs:List (Nat×Nat×Nat)):List Value:=xs.flatMap wU
set_option maxRecDepth 100000 in
set_option maxHeartbeats 2000000 in
theorem appendSeq_in (g:Nat) (lb:Array Value) (eg:∀args w,(callFunc g args).run Tryz.prog w= .ok (.enter g args) w)
  (xs:List (Nat×Nat×Nat)) (hN:xs.length≤maxLen) (hNb:xs.length*24≤140737488355328) (w:World) (hseq:Fq Tryz.prog g lb eK xs w):
  CallsIn Fence.wide 2 Tryz.prog 102 #[.slice none 0 0, .func (.func g) #[] lb] w fun e w' =>∃v:Value,e= .returned v∧w'.ownsRow w.heap.size 128 3 v xs.length (gQ xs)∧Below w.heap.size w w' :=by
 refine callsIn_of_wp_marks Tryz.func102 rfl trivial ?_ rfl
 simp only[Tryz.ntmps102,Vj,Ua,Uh,Wh,Wi,Vv,Vw,VO,VD,UV,UA]
 gi_wp2
 refine wpIn_rangeFunc ?_
 intro fn hfn
 obtain⟨W0,hW0⟩:∃W0,w.alloc (.cells #[.slice none 0 0] 125)=W0:=⟨_,rfl⟩
 have hs0:W0.heap.size=w.heap.size+1:=by rw[←hW0];simp
 have hv0:W0.heap[w.heap.size]? =some (.cells #[.slice none 0 0] 125 (0,0)):=by rw[←hW0];exact World.alloc_heap_new w _
 have hb0:Below w.heap.size w W0:=by rw[←hW0];exact(Below.refl _ w).alloc (TY _) _
 rw[hW0]
 obtain⟨W1,hW1⟩:∃W1,(W0.alloc (.deferred (some []))).alloc (.loop (apRec fn (.func (.func g) #[] lb) w.heap.size W0.heap.size .ready none))=W1:=⟨_,rfl⟩
 have hold:∀k,k<W0.heap.size→W1.heap[k]? =W0.heap[k]? :=fun k hk=>by
  rw[←hW1];exact(Below.heap_alloc _ _ k (by simp;omega)).trans (Below.heap_alloc _ _ k hk)
 have hb1:Below w.heap.size w W1:=by rw[←hW1];exact(hb0.alloc hb0.size _).alloc (by have:=hb0.size;simp;omega) _
 have hs1:W1.heap.size=W0.heap.size+2:=by rw[←hW1];simp
 have hM:K8 w 125 128 3 (apRec fn (.func (.func g) #[] lb) w.heap.size W0.heap.size .ready none) w.heap.size (W0.heap.size+1) W0.heap.size (gQ (xs.take 0)) 0 W1:=
  ⟨⟨_,(hold w.heap.size (by omega)).trans hv0,⟨rfl, .inl ⟨rfl,rfl⟩⟩,by simp⟩,
   by rw[←hW1];have:=World.alloc_heap_new (W0.alloc (.deferred (some []))) (.loop (apRec fn (.func (.func g) #[] lb) w.heap.size W0.heap.size .ready none));rwa [World.size_alloc]at this,
   by rw[←hW1];exact(Below.heap_alloc _ _ _ (by simp)).trans (World.alloc_heap_new W0 _),hb1⟩
 refine⟨W0.heap.size+1,[{ target:= .collected W0.heap.size,args:=#[] }],W1,{ target:= .fn (.func g) lb,args:=#[.func (.yield (W0.heap.size+1)) #[] #[]] },W1,g,
  #[.func (.yield (W0.heap.size+1)) #[] #[]]++lb,W1,?_,?_,?_,?_,fun h=>by simp[Fence.wide]at h,?_⟩
 ·rw[←hW1];exact run_enterLoop_outer _ _ _ _ _
 ·simp[resolve,go_sem]
 ·intro f' hf';trivial
 ·simp[invoke,go_sem,eg]
 ·refine(hseq (W0.heap.size+1) (fun i W=>K8 w 125 128 3 (apRec fn (.func (.func g) #[] lb) w.heap.size W0.heap.size .ready none) w.heap.size (W0.heap.size+1) W0.heap.size (gQ (xs.take i)) i W) (fun _=>False) (K9 125 w.heap.size (W0.heap.size+1) W0.heap.size) W1
   (Ft _ _ _ _ _ _ _ _ _) ?_ hM).mono ?_
  ·intro i x W hx hJ
   have hi:=(TQ.1 hx).1
   have:=apYield w fn (.func (.func g) #[] lb) w.heap.size (W0.heap.size+1) W0.heap.size (by omega) (by omega) (by omega) (TY _) (by omega) xs.length hN hNb (gQ (xs.take i)) i x W hJ hi
   have e:gQ (xs.take (i+1))=gQ (xs.take i)++wU x:=by
    rw[VE,hx]
    simp[gQ]
   obtain⟨fn',tmps',as',bd',hy,hR⟩:=this
   refine⟨fn',tmps',as',bd',hy,hR.mono ?_⟩
   rintro e' W' ⟨rfl,hc,hk⟩
   exact .inl ⟨rfl,by dsimp only;rw[e];exact hc,hk⟩
  rintro e W2 ⟨⟨v0,rfl⟩,h2⟩
  replace h2:=h2.resolve_right id
  rw[Wj]at h2
  obtain⟨v,hv,hrow,hnil⟩:=h2.box
  have hend:=run_endLoop (P:=Tryz.prog) h2.L (by simp[apRec])
  obtain⟨W3,hW3⟩:∃W3,W2.putObj (W0.heap.size+1) (.loop { apRec fn (.func (.func g) #[] lb) w.heap.size W0.heap.size .ready none with state:= .exhausted })=W3:=⟨_,rfl⟩
  rw[hW3]at hend
  have hg3:W2.grownBy W3 (some (W0.heap.size+1)):=by rw[←hW3];exact grownBy_putObj _ _ _
  have hv3:Boxed W3 w.heap.size 125 v:=hv.kept hg3 (by simp;omega)
  have hK3:W3.heap[W0.heap.size]? =some (.deferred (some [])):=by rw[←hW3];exact(World.putObj_heap_other (by omega)).trans h2.K
  have hrow3:=hrow.kept hg3 (ownsRow_ne hrow h2.L (fun cur e=>by cases e))
  have hb3:Below w.heap.size w W3:=h2.below.grown hg3 h2.below.size (fun k e=>by cases e;omega)
  have hc3:=hv3.cell
  have hf3:=hv3.frozen
  clear hW3
  refine⟨none,W3,hend,?_⟩
  gi_wp2
  rw[←hs0]
  refine⟨by simp, .inl ⟨_,_,rfl,run_takeDeferred hK3,?_⟩⟩
  exact⟨_,results_tmp rfl _ _ _,v,rfl,hrow3.kept (grownBy_putObj _ _ _) (ownsRow_ne hrow3 hK3 (fun cur e=>by cases e)),hb3.grown (grownBy_putObj _ _ _) hb3.size (fun k e=>by cases e;omega)⟩
set_option maxHeartbeats 1000000 in
theorem collect_in (g:Nat) (lb:Array Value) (eg:∀args w,(callFunc g args).run Tryz.prog w= .ok (.enter g args) w)
  (xs:List (Nat×Nat×Nat)) (hN:xs.length≤maxLen) (hNb:xs.length*24≤140737488355328) (w:World) (hseq:Fq Tryz.prog g lb eK xs w):
  Calls Tryz.prog 77 #[.func (.func g) #[] lb] w fun e w' =>∃v:Value,e= .returned v∧w'.ownsRow w.heap.size 128 3 v xs.length (gQ xs)∧Below w.heap.size w w' :=by
 go_enter Tryz.func77,Tryz.ntmps77
 go_wp2_with (first|(go_at_call 102;refine(callsIn_wide.1 (appendSeq_in g lb eg xs hN hNb _ hseq)).mono ?_;rintro e w' ⟨v,rfl,hrow,hb⟩))
 go_ret
 exact⟨v,rfl,hrow,hb⟩
theorem wV {F:Fence} {n:Nat} {P:Program} {g:Operand} {ps:Array Tmp} {assign body:Code} {Q:Exit→Act→World→Prop} {a:Act} {w:World}
  (hro:F.round=none) (h1:1≤n) {gf:Nat} {lb:Array Value} (hg:a.eval g= .func (.func gf) #[] lb) (hFg:F.fn gf) (eg:∀args w,(callFunc gf args).run P w= .ok (.enter gf args) w)
  (h:∀(fn:FuncId) (rec:Loop) (W1:World),rec={ state:= .ready,pending:=none,fn,tmps:=a.tmps,params:=ps,assign,body,defers:=w.heap.size }→W1=(w.alloc (.deferred (some []))).alloc (.loop rec)→
   CallsIn F (n - 1) P gf (#[.func (.yield (w.heap.size+1)) #[] #[]]++lb) W1 (rangePost F n P (w.heap.size+1) Q { a with defers:=[{ target:= .collected w.heap.size,args:=#[] }]++a.defers })):
  (Code.rangeFunc g ps assign body).wpIn F n P Q a w:=by
 refine wpIn_rangeFunc ?_
 intro fn hfn
 rw[hro]
 obtain⟨rec,hrec⟩:∃rec:Loop,rec={ state:= .ready,pending:=none,fn,tmps:=a.tmps,params:=ps,assign,body,defers:=w.heap.size }:=⟨_,rfl⟩
 obtain⟨W1,hW1⟩:∃W1,W1=(w.alloc (.deferred (some []))).alloc (.loop rec):=⟨_,rfl⟩
 have hcall:=h fn rec W1 hrec hW1
 refine⟨w.heap.size+1,[{ target:= .collected w.heap.size,args:=#[] }],W1,{ target:= .fn (.func gf) lb,args:=#[.func (.yield (w.heap.size+1)) #[] #[]] },W1,gf,
  #[.func (.yield (w.heap.size+1)) #[] #[]]++lb,W1,?_,?_,?_,?_,fun _=>h1,?_⟩
 ·rw[hW1,hrec];exact run_enterLoop_outer _ _ _ _ _
 ·simp only[resolve,hg]
  simp[go_sem]
 ·intro f' hf';simp[Target.leads]at hf';subst hf';exact hFg
 ·simp[invoke,go_sem,eg]
 ·exact hcall
end Go.Proofs.YtgpofjbdjiajeaaGreatDoor
end
section
namespace Go.Proofs.YtgpofjbdjiajeaaGreatDoor
open Go.RowKit Go.Shelf Go.Rg
theorem uV:∀{l:List UInt8} {c:UInt8} {o:Nat},l[o]? =some c→(∀k,k<o→l[k]?≠some c)→Lib.indexByte l c=o
 |[],_,o,h,_=>by simp at h
 |b::l,c,0,h,_=>by
  simp at h
  subst h
  simp[Lib.indexByte]
 |b::l,c,o+1,h,hn=>by
  have h0:b≠c:=fun e=>hn 0 (by omega) (by simp[e])
  have ih:=uV (l:=l) (o:=o) (by simpa using h) fun k hk=>by have:=hn (k+1) (by omega);simpa using this
  unfold Lib.indexByte
  have hb:(b==c)=false:=by simpa using h0
  rw[hb,ih]
  have:((o:Int)== -1)=false:=by simp
  simp[this]
theorem sM:∀{l:List UInt8} {c:UInt8},(∀k,k<l.length→l[k]?≠some c)→Lib.indexByte l c= -1
 |[],_,_=>rfl
 |b::l,c,hn=>by
  have h0:b≠c:=fun e=>hn 0 (by simp) (by simp[e])
  have ih:=sM (l:=l) (c:=c) fun k hk=>by have:=hn (k+1) (by simpa using hk);simpa using this
  unfold Lib.indexByte
  have hb:(b==c)=false:=by simpa using h0
  simp[hb,ih]
set_option maxHeartbeats 1000000 in
theorem JM (w:World) (b off cap:Nat) (bs:List UInt8) (v:UInt8) (hc:∀j x,bs[j]? =some x→w.cell? ⟨b,off+j,none⟩=some (.int .u8 x.toNat)) (hlen:bs.length<9223372036854775807):
  Calls Tryz.prog 104 #[.slice (some ⟨b,off,none⟩) bs.length cap, .int .u8 v.toNat] w fun e w' =>e= .returned (.int .i64 (Lib.indexByte bs v))∧w' =w:=by
 have HC:Aside (∀j x,bs[j]? =some x→w.cell? ⟨b,off+j,none⟩=some (.int .u8 x.toNat)):=hc
 clear hc
 go_enter Tryz.func104,Tryz.ntmps104
 go_wp2
 go_loopg [8] bs.length (fun g s8 wr=>∃k:Nat,s8= .int .i64 k∧k≤bs.length∧g=bs.length - k∧wr=w∧Aside (∀j,j<k→bs[j]?≠some v))
 case atStart=>exact⟨0,rfl,Wd _,rfl,rfl,fun j hj=>by omega⟩
 case round=>
  obtain⟨k,rfl,hk,rfl,rfl,hn⟩:=hrel
  by_cases hlt:k<bs.length
  ·have hltz:(k:Int)<(bs.length:Int):=by omega
   have hcx:=HC.out k bs[k] (by simp[hlt])
   by_cases hv:bs[k]=v
   ·have hq:((v.toNat:Int)==(bs[k].toNat:Int))=true:=by rw[hv];simp
    go_wp2
    go_ret
    have e:=uV (o:=k) (c:=v) (l:=bs) (by simp[hlt,hv]) hn.out
    exact⟨by rw[e];rfl,rfl⟩
   ·have hq:((v.toNat:Int)==(bs[k].toNat:Int))=false:=by
     have:v.toNat≠bs[k].toNat:=fun e=>hv (Wc.1 e.symm)
     exact beq_eq_false_iff_ne.2 (by omega)
    go_wp2
    go_roundg (bs.length - (k+1))
    case measure=>go_light;omega
    case rel=>
     go_light
     refine⟨k+1,by push_cast;rfl,by omega,by omega,rfl,fun j hj=>?_⟩
     rcases VM j k with h|h
     ·exact hn.out j h
     ·obtain rfl:j=k:=by omega
      simp[hlt,hv]
  ·have hltz:¬((k:Int)<(bs.length:Int)):=by omega
   go_wp2
   go_ret
   obtain rfl:k=bs.length:=by omega
   have e:=sM hn.out
   exact⟨by rw[e];rfl,rfl⟩
end Go.Proofs.YtgpofjbdjiajeaaGreatDoor
end
section
namespace Go.Proofs.YtgpofjbdjiajeaaGreatDoor
open Go.RowKit Go.Shelf Go.Rg
attribute [local go_sem] Oper.semAt_some
def fA:Nat→Nat→List UInt8→List (Nat×Nat×Nat)
 |0,_,_=>[]
 |n+1,a,s=>if s=[]then[]else if Lib.indexByte s 10<0 then[(a,a+s.length,a+s.length)]else
  (a,a+(if 0<(Lib.indexByte s 10).toNat∧s[(Lib.indexByte s 10).toNat - 1]? =some 13 then(Lib.indexByte s 10).toNat - 1 else(Lib.indexByte s 10).toNat),a+(Lib.indexByte s 10).toNat+1)::
   fA n (a+(Lib.indexByte s 10).toNat+1) (s.drop ((Lib.indexByte s 10).toNat+1))
def dT (a:Nat) (s:List UInt8):List (Nat×Nat×Nat):=fA s.length a s
theorem yE:∀(n m a:Nat) (s:List UInt8),s.length≤n→s.length≤m→fA n a s=fA m a s
 |0,m,a,s,h,_=>by
  have:s=[]:=Ue (by omega)
  subst this
  cases m<;>simp[fA]
 |n+1,0,a,s,_,h=>by
  have:s=[]:=Ue (by omega)
  subst this
  simp[fA]
 |n+1,m+1,a,s,h,h' =>by
  simp only[fA]
  by_cases hs:s=[]
  ·simp[hs]
  ·rw[if_neg hs,if_neg hs]
   have hp:0<s.length:=U6.2 hs
   rw[yE n m (a+(Lib.indexByte s 10).toNat+1) (s.drop ((Lib.indexByte s 10).toNat+1)) (by rw[Uv];omega) (by rw[Uv];omega)]
theorem Av (a:Nat):dT a []=[]:=rfl
theorem Fu (a:Nat) (s:List UInt8) (hs:s≠[]):dT a s=if Lib.indexByte s 10<0 then[(a,a+s.length,a+s.length)]else
  (a,a+(if 0<(Lib.indexByte s 10).toNat∧s[(Lib.indexByte s 10).toNat - 1]? =some 13 then(Lib.indexByte s 10).toNat - 1 else(Lib.indexByte s 10).toNat),a+(Lib.indexByte s 10).toNat+1)::
   dT (a+(Lib.indexByte s 10).toNat+1) (s.drop ((Lib.indexByte s 10).toNat+1)):=by
 have hp:0<s.length:=U6.2 hs
 obtain⟨n,hn⟩:∃n,s.length=n+1:=⟨s.length - 1,by omega⟩
 unfold dT
 rw[hn]
 conv=>lhs;unfold fA
 rw[if_neg hs,yE n _ _ (s.drop ((Lib.indexByte s 10).toNat+1)) (by rw[Uv];omega) (TY _),hn]
set_option maxRecDepth 100000 in
set_option maxHeartbeats 4000000 in
theorem Fv (X:Nat→Prop) (base:World) (S B b off cap fr to:Nat) (bs:List UInt8) (hXS:¬X S) (hXB:¬X B) (hXb:¬X b) (hft:fr≤to) (htl:to≤bs.length) (hcap:bs.length≤cap) (hmax:bs.length≤9223372036854775000)
  (hs0:base.cell? ⟨S,0,none⟩=some (.int .i64 fr)) (hs1:base.cell? ⟨S,1,none⟩=some (.int .i64 to)) (hb0:base.cell? ⟨B,0,none⟩=some (.slice (some ⟨b,off,none⟩) bs.length cap))
  (hc:∀j x,bs[j]? =some x→base.cell? ⟨b,off+j,none⟩=some (.int .u8 x.toNat)):
  D3 X Tryz.prog 103 #[.pointer (some ⟨S,0,none⟩), .pointer (some ⟨B,0,none⟩)] eK (dT fr ((bs.take to).drop fr)) base:=by
 intro l J Jx T W hab hR h0
 have HC:Aside (∀j x,bs[j]? =some x→base.cell? ⟨b,off+j,none⟩=some (.int .u8 x.toNat)):=hc
 clear hc
 have hob:=hab.old 0 W h0
 have hS:S<base.heap.size:=World.block_lt_of_cell? base _ hs0
 have hB:B<base.heap.size:=World.block_lt_of_cell? base _ hb0
 have hS0:W.cell? ⟨S,0,none⟩=some (.int .i64 fr):=(hob.cell (p:=⟨S,0,none⟩) hS hXS).trans hs0
 refine callsIn_of_wp Tryz.func103 rfl trivial ?_ rfl
 simp only[Tryz.ntmps103,Vj,Ua,Uh,Wh,Wi,Vv,Vw,VO,VD,UV,UA]
 gi_wp2
 gi_loopw [4] (fun i wr=>∃(a n:Nat),i= .int .i64 a∧fr≤a∧a≤to∧J n wr∧dT a ((bs.take to).drop a)=(dT fr ((bs.take to).drop fr)).drop n∧n≤(dT fr ((bs.take to).drop fr)).length)
  (fun i _=>to - (intOf i).toNat)
 case atStart=>exact⟨fr,0,rfl,TY _,hft,h0,by simp,Wd _⟩
 case round=>
  obtain⟨a,n,rfl,hfa,hat,hJ,hX,hnl⟩:=hrel
  have HX:Aside (dT a ((bs.take to).drop a)=(dT fr ((bs.take to).drop fr)).drop n∧n≤(dT fr ((bs.take to).drop fr)).length):=⟨hX,hnl⟩
  clear hX hnl
  have hor:=hab.old n wr hJ
  have hS1:wr.cell? ⟨S,1,none⟩=some (.int .i64 to):=(hor.cell (p:=⟨S,1,none⟩) hS hXS).trans hs1
  have hB0:wr.cell? ⟨B,0,none⟩=some (.slice (some ⟨b,off,none⟩) bs.length cap):=(hor.cell (p:=⟨B,0,none⟩) hB hXB).trans hb0
  by_cases hlt:a<to
  ·have hltz:(a:Int)<(to:Int):=by omega
   have c0:(0:Int)≤(a:Int):=by omega
   have c1:(a:Int)≤(to:Int):=by omega
   have c2:(to:Int)≤(cap:Int):=by omega
   generalize hseg:(bs.take to).drop a=seg at HX
   have hsl:seg.length=to - a:=by rw[←hseg];simp;omega
   have hcs:∀(w' :World),(∀k,k<base.heap.size→¬X k→w'.heap[k]? =base.heap[k]?)→∀j x,seg[j]? =some x→w'.cell? ⟨b,off+a+j,none⟩=some (.int .u8 x.toNat):=by
    intro w' hw j x hx
    have h1:bs[a+j]? =some x:=by
     rw[←hseg,UN,Uw]at hx
     split at hx
     ·exact hx
     ·cases hx
    have h2:=HC.out (a+j) x h1
    have hb:=World.block_lt_of_cell? base _ h2
    have h3:=hw b hb hXb
    simp only[World.cell?]at h2 ⊢
    rw[h3,Vf]
    exact h2
   have HSL:Aside (seg.length=to - a):=hsl
   have HCS:Aside (∀(w' :World),(∀k,k<base.heap.size→¬X k→w'.heap[k]? =base.heap[k]?)→∀j x,seg[j]? =some x→w'.cell? ⟨b,off+a+j,none⟩=some (.int .u8 x.toNat)):=hcs
   clear hcs hsl
   have hBl:B<wr.heap.size:=Up hB hor.size
   have hSl:S<wr.heap.size:=Up hS hor.size
   have hB1:∀cs,(wr.alloc (.cells cs 128)).cell? ⟨B,0,none⟩=some (.slice (some ⟨b,off,none⟩) bs.length cap):=fun cs=>(World.cell?_of_block (Below.heap_alloc _ _ B hBl)).trans hB0
   have hS2:∀cs,(wr.alloc (.cells cs 128)).cell? ⟨S,1,none⟩=some (.int .i64 to):=fun cs=>(World.cell?_of_block (Below.heap_alloc _ _ S hSl)).trans hS1
   have hwa:∀cs k,k<base.heap.size→¬X k→(wr.alloc (.cells cs 128)).heap[k]? =base.heap[k]? :=fun cs k hk hx=>(Below.heap_alloc _ _ k (Up hk hor.size)).trans (hor.block k hk hx)
   have hidx:∀cs,CallsIn Fence.wide 0 Tryz.prog 104 #[.slice (some ⟨b,off+a,none⟩) (to - a) (cap - a), .int .u8 10] (wr.alloc (.cells cs 128)) fun e w' =>e= .returned (.int .i64 (Lib.indexByte seg 10))∧w' =wr.alloc (.cells cs 128):=by
    intro cs
    have:=JM (wr.alloc (.cells cs 128)) b (off+a) (cap - a) seg 10 (HCS.out _ (hwa cs)) (by rw[HSL.out];omega)
    rw[HSL.out]at this
    exact callsIn_wide.2 this
   have hsne:seg≠[]:=fun e=>by have:=HSL.out;rw[e]at this;simp at this;omega
   have hxs:=Fu a seg hsne
   have fin:∀(e nx:Nat) (E N:Int) (rest:List (Nat×Nat×Nat)),E=e→N=nx→dT a seg=(a,e,nx)::rest→
     rest=(dT fr ((bs.take to).drop fr)).drop (n+1)∧n+1≤(dT fr ((bs.take to).drop fr)).length∧
     YieldAt Fence.wide 0 Tryz.prog l #[.agg #[.int .i64 a, .int .i64 E, .int .i64 N]] (wr.alloc (.cells #[.int .i64 a, .int .i64 E, .int .i64 N] 128)) fun e' W' =>
      (e' = .returned (.bool true)∧J (n+1) W'∧W'.cell? ⟨wr.heap.size,2,none⟩=some (.int .i64 N))∨(e' = .returned (.bool false)∧Jx W'):=by
    intro e nx E N rest hE hN hl
    subst hE hN
    have h1:=HX.out.1
    rw[hl]at h1
    have hxx:(dT fr ((bs.take to).drop fr))[n]? =some (a,e,nx):=by
     have h2:=congrArg (fun l=>l[0]?) h1
     simp only[UN,U2]at h2
     rw[←h2]
     rfl
    have hrest:rest=(dT fr ((bs.take to).drop fr)).drop (n+1):=by
     have h2:=congrArg (Wb 1) h1
     rw[List.drop_drop]at h2
     exact h2
    refine⟨hrest,(TQ.1 hxx).1,?_⟩
    have hga:wr.grownBy (wr.alloc (.cells #[.int .i64 a, .int .i64 e, .int .i64 nx] 128)) none:=World.grownBy_alloc _ _ _
    have hst:=hab.step n wr _ none hJ hga (fun r e=>by cases e)
    have hTX:¬T (wr.alloc (.cells #[.int .i64 a, .int .i64 e, .int .i64 nx] 128)) wr.heap.size:=fun h=>Wg _ (hab.lt n wr _ hJ (hst.2 _ h))
    have hX2:(wr.alloc (.cells #[.int .i64 a, .int .i64 e, .int .i64 nx] 128)).cell? ⟨wr.heap.size,2,none⟩=some (.int .i64 nx):=by simp
    have hXl:wr.heap.size<(wr.alloc (.cells #[.int .i64 a, .int .i64 e, .int .i64 nx] 128)).heap.size:=by simp
    obtain⟨fn,tmps,assign,body,hy,hRd⟩:=hR n (a,e,nx) _ hxx hst.1
    refine⟨fn,tmps,assign,body,hy,hRd.mono ?_⟩
    rintro e' W3 (⟨rfl,hJ3,hk3⟩|⟨rfl,hJx3⟩)
    ·exact .inl ⟨rfl,hJ3,(World.cell?_of_block (hk3.block _ hXl hTX).1).trans hX2⟩
    ·exact .inr ⟨rfl,hJx3⟩
   by_cases hk:Lib.indexByte seg 10<0
   ·have hk1:Lib.indexByte seg 10= -1:=by have:=Lib.indexByte_ge seg 10;omega
    rw[hk1]at hidx
    rw[if_pos hk]at hxs
    obtain⟨hr1,hr2,fn,tmps,assign,body,hy,hRd⟩:=fin to to to to [] rfl rfl (by rw[hxs,HSL.out];congr 3<;>omega)
    have HR1:=(show Hid _ from hr1)
    have HR2:=(show Hid _ from hr2)
    clear hxs hk hk1 hwa hsne fin hr1 hr2
    gi_wp2
    refine⟨trivial,(hidx _).mono ?_⟩
    clear hidx
    rintro e w' ⟨rfl,rfl⟩
    gi_wp2
    refine hRd.mono ?_
    rintro e W3 (⟨rfl,hJ3,hX3⟩|⟨rfl,hJx3⟩)
    ·gi_wp2
     go_roundw
     case rel=>
      refine⟨to,n+1,rfl,by omega,by omega,hJ3,?_,HR2.out⟩
      have h3:(bs.take to).drop to=[]:=by simp
      rw[h3,Av]
      exact HR1.out
     case measure=>simp[intOf];omega
    ·gi_wp2
     refine bodyPost_ret (results_none rfl _ _ _) rfl ?_
     exact⟨⟨_,rfl⟩, .inr hJx3⟩
   ·obtain⟨q,hq⟩:∃q:Nat,Lib.indexByte seg 10=q:=⟨(Lib.indexByte seg 10).toNat,by omega⟩
    rw[hq]at hidx
    rw[if_neg hk,hq]at hxs
    have hq0:=Lib.indexByte_some hq
    have hql:q<seg.length:=(TQ.1 hq0.1).1
    have hqa:q<to - a:=by rw[←HSL.out];exact hql
    have hdr:seg.drop (q+1)=(bs.take to).drop (a+q+1):=by rw[←hseg,List.drop_drop,Vf]
    have hxs' :dT a seg=(a,a+(if 0<q∧seg[q - 1]? =some 13 then q - 1 else q),a+q+1)::dT (a+q+1) ((bs.take to).drop (a+q+1)):=by rw[←hdr];exact hxs
    have z1:(0:Int)≤(q:Int):=by omega
    by_cases hq1:0<q
    ·have z2:(0:Int)<(q:Int):=by omega
     obtain⟨y,hy0⟩:∃y,seg[q - 1]? =some y:=⟨_,TP (by omega)⟩
     have hcb:∀cs,(wr.alloc (.cells cs 128)).cell? ⟨b,off+(a+q - 1),none⟩=some (.int .u8 y.toNat):=by
      intro cs
      have:=HCS.out _ (hwa cs) (q - 1) y hy0
      rw[show off+(a+q - 1)=off+a+(q - 1)by omega]
      exact this
     by_cases h13:y=13
     ·have hq13:((y.toNat:Int)==13)=true:=by rw[h13];rfl
      obtain⟨hr1,hr2,fn,tmps,assign,body,hy,hRd⟩:=fin (a+(q - 1)) (a+q+1) (a+q - 1) (a+q+1) _ (by omega) (by omega) (by rw[hxs',if_pos ⟨hq1,by rw[hy0,h13]⟩])
      have HR1:=(show Hid _ from hr1)
      have HR2:=(show Hid _ from hr2)
      clear hxs hxs' hk hwa hsne fin hr1 hr2 hq hq0 hql hdr hy0 h13
      gi_wp2
      refine⟨trivial,(hidx _).mono ?_⟩
      clear hidx
      rintro e w' ⟨rfl,rfl⟩
      gi_wp2
      refine hRd.mono ?_
      rintro e W3 (⟨rfl,hJ3,hX3⟩|⟨rfl,hJx3⟩)
      ·gi_wp2
       go_roundw
       case rel=>exact⟨a+q+1,n+1,by push_cast;rfl,by omega,by omega,hJ3,HR1.out,HR2.out⟩
       case measure=>simp[intOf];omega
      ·gi_wp2
       refine bodyPost_ret (results_none rfl _ _ _) rfl ?_
       exact⟨⟨_,rfl⟩, .inr hJx3⟩
     ·have h13' :y.toNat≠13:=fun e=>h13 (Wc.1 e)
      have hq13:((y.toNat:Int)==13)=false:=beq_eq_false_iff_ne.2 (by omega)
      obtain⟨hr1,hr2,fn,tmps,assign,body,hy,hRd⟩:=fin (a+q) (a+q+1) (a+q) (a+q+1) _ (by omega) (by omega) (by rw[hxs',if_neg (by rw[hy0];simp;intro _;exact h13)])
      have HR1:=(show Hid _ from hr1)
      have HR2:=(show Hid _ from hr2)
      clear hxs hxs' hk hwa hsne fin hr1 hr2 hq hq0 hql hdr hy0 h13
      gi_wp2
      refine⟨trivial,(hidx _).mono ?_⟩
      clear hidx
      rintro e w' ⟨rfl,rfl⟩
      gi_wp2
      refine hRd.mono ?_
      rintro e W3 (⟨rfl,hJ3,hX3⟩|⟨rfl,hJx3⟩)
      ·gi_wp2
       go_roundw
       case rel=>exact⟨a+q+1,n+1,by push_cast;rfl,by omega,by omega,hJ3,HR1.out,HR2.out⟩
       case measure=>simp[intOf];omega
      ·gi_wp2
       refine bodyPost_ret (results_none rfl _ _ _) rfl ?_
       exact⟨⟨_,rfl⟩, .inr hJx3⟩
    ·have z2:¬(0:Int)<(q:Int):=by omega
     obtain⟨hr1,hr2,fn,tmps,assign,body,hy,hRd⟩:=fin (a+q) (a+q+1) (a+q) (a+q+1) _ (by omega) (by omega) (by rw[hxs',if_neg (fun h=>hq1 h.1)])
     have HR1:=(show Hid _ from hr1)
     have HR2:=(show Hid _ from hr2)
     clear hxs hxs' hk hwa hsne fin hr1 hr2 hq hq0 hql hdr
     gi_wp2
     refine⟨trivial,(hidx _).mono ?_⟩
     clear hidx
     rintro e w' ⟨rfl,rfl⟩
     gi_wp2
     refine hRd.mono ?_
     rintro e W3 (⟨rfl,hJ3,hX3⟩|⟨rfl,hJx3⟩)
     ·gi_wp2
      go_roundw
      case rel=>exact⟨a+q+1,n+1,by push_cast;rfl,by omega,by omega,hJ3,HR1.out,HR2.out⟩
      case measure=>simp[intOf];omega
     ·gi_wp2
      refine bodyPost_ret (results_none rfl _ _ _) rfl ?_
      exact⟨⟨_,rfl⟩, .inr hJx3⟩
  ·have hltz:¬((a:Int)<(to:Int)):=by omega
   gi_wp2
   go_end0
   obtain rfl:a=to:=by omega
   have h1:=HX.out.1
   have h3:(bs.take a).drop a=[]:=by simp
   rw[h3,Av]at h1
   have h2:(dT fr ((bs.take a).drop fr)).length≤n:=List.drop_eq_nil_iff.1 h1.symm
   have h4:=HX.out.2
   have:n=(dT fr ((bs.take a).drop fr)).length:=by omega
   rw[←this]
   exact⟨⟨_,rfl⟩, .inl hJ⟩
theorem HD (base:World) (S B b off cap fr to:Nat) (bs:List UInt8) (hft:fr≤to) (htl:to≤bs.length) (hcap:bs.length≤cap) (hmax:bs.length≤9223372036854775000)
  (hs0:base.cell? ⟨S,0,none⟩=some (.int .i64 fr)) (hs1:base.cell? ⟨S,1,none⟩=some (.int .i64 to)) (hb0:base.cell? ⟨B,0,none⟩=some (.slice (some ⟨b,off,none⟩) bs.length cap))
  (hc:∀j x,bs[j]? =some x→base.cell? ⟨b,off+j,none⟩=some (.int .u8 x.toNat)):
  Fq Tryz.prog 103 #[.pointer (some ⟨S,0,none⟩), .pointer (some ⟨B,0,none⟩)] eK (dT fr ((bs.take to).drop fr)) base:=
 (Fv (fun _=>False) base S B b off cap fr to bs id id id hft htl hcap hmax hs0 hs1 hb0 hc).tells
end Go.Proofs.YtgpofjbdjiajeaaGreatDoor
end
section
namespace Go.Proofs.YtgpofjbdjiajeaaGreatDoor
open Go.RowKit Go.Shelf Go.Rg
set_option maxRecDepth 100000 in
set_option maxHeartbeats 1000000 in
theorem HG (X:Nat→Prop) (base:World) (S:Nat) (x:Value) (hXS:¬X S) (fr to:Int) (hft:¬fr<to)
  (hs0:base.cell? ⟨S,0,none⟩=some (.int .i64 fr)) (hs1:base.cell? ⟨S,1,none⟩=some (.int .i64 to)):
  D3 X Tryz.prog 103 #[.pointer (some ⟨S,0,none⟩),x] eK [] base:=by
 intro l J Jx T W hab hR h0
 have hob:=hab.old 0 W h0
 have hS:S<base.heap.size:=World.block_lt_of_cell? base _ hs0
 have hS0:W.cell? ⟨S,0,none⟩=some (.int .i64 fr):=(hob.cell (p:=⟨S,0,none⟩) hS hXS).trans hs0
 have hS1:W.cell? ⟨S,1,none⟩=some (.int .i64 to):=(hob.cell (p:=⟨S,1,none⟩) hS hXS).trans hs1
 refine callsIn_of_wp Tryz.func103 rfl trivial ?_ rfl
 simp only[Tryz.ntmps103,Vj,Ua,Uh,Wh,Wi,Vv,Vw,VO,VD,UV,UA]
 gi_wp2
 gi_loopw [4] (fun i wr=>i= .int .i64 fr∧wr=W) (fun _ _=>0)
 case atStart=>exact⟨rfl,rfl⟩
 case round=>
  obtain⟨rfl,rfl⟩:=hrel
  gi_wp2
  go_end0
  exact⟨⟨_,rfl⟩, .inl h0⟩
theorem JO (base:World) (S:Nat) (x:Value) (fr to:Int) (hft:¬fr<to)
  (hs0:base.cell? ⟨S,0,none⟩=some (.int .i64 fr)) (hs1:base.cell? ⟨S,1,none⟩=some (.int .i64 to)):
  Fq Tryz.prog 103 #[.pointer (some ⟨S,0,none⟩),x] eK [] base:=
 (HG (fun _=>False) base S x id fr to hft hs0 hs1).tells
set_option maxHeartbeats 1000000 in
theorem QS (x:Value) (fr to:Int) (w:World) (hx:∃a l c,x= .slice a l c):Calls Tryz.prog 78 #[x, .agg #[.int .i64 fr, .int .i64 to]] w fun e w' =>
  e= .returned (.func (.func 103) #[] #[.pointer (some ⟨w.heap.size+1,0,none⟩), .pointer (some ⟨w.heap.size,0,none⟩)])∧w' =(w.alloc (.cells #[x] 22)).alloc (.cells #[.int .i64 fr, .int .i64 to] 27):=by
 obtain⟨a,l,c,rfl⟩:=hx
 go_enter Tryz.func78,Tryz.ntmps78
 go_wp2
 go_ret
 exact⟨rfl,rfl⟩
set_option maxHeartbeats 1000000 in
theorem Fw (fr to n:Int) (w:World):Calls Tryz.prog 76 #[.agg #[.int .i64 fr, .int .i64 to], .int .i64 n] w fun e w' =>
  e= .returned (.bool (decide (0≤fr∧fr≤to∧to≤n)))∧w' =w.alloc (.cells #[.int .i64 fr, .int .i64 to] 27):=by
 by_cases h1:0≤fr
 ·by_cases h2:fr≤to
  ·by_cases h3:to≤n
   ·have e:decide (0≤fr∧fr≤to∧to≤n)=true:=by simp[h1,h2,h3]
    rw[e]
    go_enter Tryz.func76,Tryz.ntmps76
    go_wp2
    go_ret
    exact⟨rfl,rfl⟩
   ·have e:decide (0≤fr∧fr≤to∧to≤n)=false:=by simp[h3]
    rw[e]
    go_enter Tryz.func76,Tryz.ntmps76
    go_wp2
    go_ret
    exact⟨rfl,rfl⟩
  ·have e:decide (0≤fr∧fr≤to∧to≤n)=false:=by simp[h2]
   rw[e]
   go_enter Tryz.func76,Tryz.ntmps76
   go_wp2
   go_ret
   exact⟨rfl,rfl⟩
 ·have e:decide (0≤fr∧fr≤to∧to≤n)=false:=by simp[h1]
  rw[e]
  go_enter Tryz.func76,Tryz.ntmps76
  go_wp2
  go_ret
  exact⟨rfl,rfl⟩
theorem wW (W:World) (cs:Array Value) (t:TypeId) (n i:Nat) (v:Value) (h:W.heap.size=n) (hv:cs[i]? =some v):(W.alloc (.cells cs t)).cell? ⟨n,i,none⟩=some v:=by
 subst h
 have:=World.alloc_heap_new W (.cells cs t)
 simp only[World.cell?,this]
 exact hv
theorem sN:∀(n a:Nat) (s:List UInt8),(fA n a s).length≤s.length
 |0,a,s=>by simp[fA]
 |n+1,a,s=>by
  unfold fA
  split
  ·simp
  ·rename_i hs
   have hp:0<s.length:=U6.2 hs
   split
   ·simp;omega
   ·have:=sN n (a+(Lib.indexByte s 10).toNat+1) (s.drop ((Lib.indexByte s 10).toNat+1))
    rw[Uv]at this
    simp only[Ua]
    omega
def aW (fr to:Int) (bs:List UInt8):List (Nat×Nat×Nat):=if 0≤fr∧fr≤to∧to≤bs.length then dT fr.toNat ((bs.take to.toNat).drop fr.toNat)else[]
theorem eU (fr to:Int) (bs:List UInt8):(aW fr to bs).length≤bs.length:=by
 unfold aW
 split
 ·exact Uy (sN _ _ _) (by simp;omega)
 ·simp
set_option maxRecDepth 100000 in
set_option maxHeartbeats 1000000 in
theorem Sx (a:Option Addr) (cap:Nat) (bs:List UInt8) (fr to:Int) (w:World) (hcap:bs.length≤cap) (ha:a=none→cap=0) (hmax:bs.length<1099511627776)
  (hc:∀p,a=some p→bs≠[]→p.spot=none∧∀j x,bs[j]? =some x→w.cell? ⟨p.block,p.off+j,none⟩=some (.int .u8 x.toNat)):
  Calls Tryz.prog 55 #[.slice a bs.length cap, .agg #[.int .i64 fr, .int .i64 to]] w fun e w' =>
   ∃v:Value,e= .returned v∧w'.ownsRow w.heap.size 128 3 v (aW fr to bs).length (gQ (aW fr to bs))∧Below w.heap.size w w' :=by
 have HC:Aside (∀p,a=some p→bs≠[]→p.spot=none∧∀j x,bs[j]? =some x→w.cell? ⟨p.block,p.off+j,none⟩=some (.int .u8 x.toNat)):=hc
 clear hc
 by_cases hin:0≤fr∧fr≤to∧to≤bs.length
 ·have hd:decide (0≤fr∧fr≤to∧to≤(bs.length:Int))=true:=by simpa using hin
  have hl:aW fr to bs=dT fr.toNat ((bs.take to.toNat).drop fr.toNat):=by unfold aW;rw[if_pos hin]
  have hlen:=eU fr to bs
  go_enter Tryz.func55,Tryz.ntmps55
  go_wp2_with (first
   |(go_at_call 76;refine(Fw fr to _ _).mono ?_;rintro e w' ⟨rfl,hw⟩;rw[hw,hd])
   |(go_at_call 78;refine(QS _ fr to _ ⟨_,_,_,rfl⟩).mono ?_;rintro e w' ⟨rfl,hw⟩;rw[hw])
   |(go_at_call 77;refine(collect_in 103 _ (enters_of Tryz.func103 (by kernel_rfl) rfl) (aW fr to bs) ?c1 ?c2 _ ?c3).mono ?_))
  case c1=>unfold maxLen;omega
  case c2=>omega
  case c3=>
   generalize hW:(((w.alloc (Obj.cells #[Value.int TM fr,Value.int TM to] 27)).alloc (Obj.cells #[Value.int TM fr,Value.int TM to] 27)).alloc (Obj.cells #[Value.slice a bs.length cap] 22)).alloc (Obj.cells #[Value.int TM fr,Value.int TM to] 27)=W
   have s0:W.cell? ⟨w.heap.size+1+1+1,0,none⟩=some (.int .i64 fr):=by rw[←hW];exact wW _ _ _ _ _ _ (by simp) rfl
   have s1:W.cell? ⟨w.heap.size+1+1+1,1,none⟩=some (.int .i64 to):=by rw[←hW];exact wW _ _ _ _ _ _ (by simp) rfl
   have b0:W.cell? ⟨w.heap.size+1+1,0,none⟩=some (.slice a bs.length cap):=by
    rw[←hW]
    refine(World.cell?_of_block (Below.heap_alloc _ _ _ (by simp))).trans ?_
    exact wW _ _ _ _ _ _ (by simp) rfl
   have hold:∀k,k<w.heap.size→W.heap[k]? =w.heap[k]? :=fun k hk=>by
    rw[←hW]
    exact(Below.heap_alloc _ _ k (by simp;omega)).trans ((Below.heap_alloc _ _ k (by simp;omega)).trans ((Below.heap_alloc _ _ k (by simp;omega)).trans (Below.heap_alloc _ _ k hk)))
   by_cases hft:fr<to
   ·have hbne:bs≠[]:=fun e=>by rw[e]at hin;simp at hin;omega
    cases ha0:a with
    |none=>have:=ha ha0;have:=U6.2 hbne;omega
    |some p=>
     obtain⟨hp1,hp2⟩:=HC.out p ha0 hbne
     obtain⟨pb,po,ps⟩:=p
     simp only at hp1 hp2
     subst hp1
     rw[ha0]at b0
     obtain⟨F,hF⟩:∃F:Nat,fr=F:=⟨fr.toNat,by omega⟩
     obtain⟨E,hE⟩:∃E:Nat,to=E:=⟨to.toNat,by omega⟩
     rw[hl,hF,hE]
     rw[hF]at s0
     rw[hE]at s1
     exact HD W (w.heap.size+1+1+1) (w.heap.size+1+1) pb po cap F E bs (by omega) (by omega) hcap (by omega) s0 s1 b0 (fun j x hx=>by
      have h1:=hp2 j x hx
      have h2:=hold pb (World.block_lt_of_cell? w _ h1)
      simp only[World.cell?]at h1 ⊢
      rw[h2];exact h1)
   ·have he:aW fr to bs=[]:=by
     rw[hl]
     have:fr=to:=by omega
     rw[this]
     have h3:(bs.take to.toNat).drop to.toNat=[]:=by simp
     rw[h3];rfl
    rw[he]
    exact JO W _ _ fr to hft s0 s1
  rintro e w' ⟨v,rfl,hrow,hb⟩
  go_wp2
  go_ret
  refine⟨v,rfl,ownsRow_base hrow (by simp;omega),?_⟩
  refine Below.trans ?_ (hb.mono (by simp;omega))
  exact((((Below.refl _ w).alloc (TY _) _).alloc (by simp) _).alloc (by simp;omega) _).alloc (by simp;omega) _
 ·have hd:decide (0≤fr∧fr≤to∧to≤(bs.length:Int))=false:=by simpa using hin
  have hl:aW fr to bs=[]:=by unfold aW;rw[if_neg hin]
  rw[hl]
  go_enter Tryz.func55,Tryz.ntmps55
  go_wp2_with (first
   |(go_at_call 76;refine(Fw fr to _ _).mono ?_;rintro e w' ⟨rfl,hw⟩;rw[hw,hd]))
  go_ret
  exact⟨.slice none 0 0,rfl,World.ownsRow_nil _ _ _ _,((Below.refl _ w).alloc (TY _) _).alloc (by simp) _⟩
end Go.Proofs.YtgpofjbdjiajeaaGreatDoor
end
section
namespace Go.Proofs.YtgpofjbdjiajeaaGreatDoor
open Go.Shelf Go.RowKit Go.Ev
theorem IF:(Tryz.prog.info? 190).map (·.size)=some 2:=by kernel_rfl
theorem M3:liesAt Tryz.prog Tryz.prog.depth 190 (2 / Tryz.prog.cellsOf 190) 0 190 1=true:=by kernel_rfl
theorem byteCells:Tryz.prog.cellsOf 5=1:=by kernel_rfl
set_option maxHeartbeats 1000000 in
set_option maxRecDepth 100000 in
theorem HH (b:Nat) (w:World) (h0:w.cell? ⟨b,0,none⟩=some (.pointer (some ⟨b,0,none⟩))):
  Calls Tryz.prog 115 #[.pointer (some ⟨b,0,none⟩)] w fun e w' =>e= .returned (.tuple #[])∧w' =w:=by
 obtain⟨j,hj,_⟩:=UG.1 IF
 go_enter Tryz.func115,Tryz.ntmps115
 go_wp2
 rw[Lib.run_neq_ptr_same w _ Tryz.underlying188 hj]
 go_wp2
 go_end0
 exact⟨rfl,rfl⟩
set_option maxHeartbeats 1000000 in
set_option maxRecDepth 100000 in
theorem Fz (b:Nat) (w:World) (h0:w.cell? ⟨b,0,none⟩=some (.pointer none)) (hsh:w.shape? b=some (190,2)) (hfz:w.frozen? ⟨b,0,none⟩=false):
  Calls Tryz.prog 115 #[.pointer (some ⟨b,0,none⟩)] w fun e w' =>e= .returned (.tuple #[])∧w' =w.setCell ⟨b,0,none⟩ (.pointer (some ⟨b,0,none⟩)):=by
 obtain⟨j,hj,hjs⟩:=UG.1 IF
 go_enter Tryz.func115,Tryz.ntmps115
 go_wp2
 rw[Lib.run_to_unsafe w ⟨b,0,none⟩ Tryz.underlying188 Tryz.underlying153 hj (by rw[hjs];decide) hsh (Nat.zero_lt_succ 1)]
 simp only[Result.andThen]
 rw[Oper.upon_value]
 go_wp2
 rw[run_callFunc_extern Tryz.func123 (by kernel_rfl) (by kernel_rfl) (by kernel_rfl) (e:=Extern.AbiNoEscape.same) (by kernel_rfl)]
 rw[Lib.run_noEscape]
 simp only[Result.andThen]
 rw[Oper.upon_value]
 go_wp2
 rw[Lib.run_from_unsafe w ⟨b,0,none⟩ Tryz.underlying153 Tryz.underlying188 hj hsh M3]
 simp only[Result.andThen]
 rw[Oper.upon_value]
 go_wp2
 go_end0
 exact⟨rfl,rfl⟩
set_option maxHeartbeats 2000000 in
set_option maxRecDepth 100000 in
theorem FA (b g cap cells:Nat) (l:List UInt8) (w:World) (h0:l≠[]) (hc1:w.cell? ⟨b,1,none⟩=some (.slice (some ⟨g,0,none⟩) l.length cap)) (hn:l.length≤cap)
  (hsh:w.shape? g=some (5,cells)) (hcl:l.length≤cells) (hbig:l.length≤9223372036854775807) (hcell:∀j x,l[j]? =some x→w.cell? ⟨g,j,none⟩=some (.int .u8 x.toNat)):
  Calls Tryz.prog 95 #[.pointer (some ⟨b,0,none⟩)] w fun e w' =>e= .returned (.string ⟨l.toArray⟩)∧w' =w.drew.freeze ⟨g,0,none⟩ l.length:=by
 have hl0:l.length≠0:=by simpa using h0
 have c1:w.drew.cell? ⟨b,1,none⟩=some (.slice (some ⟨g,0,none⟩) l.length cap):=hc1
 have hSD:(Builtin.unsafeSliceData_ #[22] 213 #[.slice (some ⟨g,0,none⟩) l.length cap]).run Tryz.prog w.drew= .ok (.pointer (some ⟨g,0,none⟩)) w.drew:=
  Lib.run_unsafeSliceData_row _ _ _ _ _ _ (by omega)
 have hUS:(Builtin.unsafeString_ #[213,3] 9 #[.pointer (some ⟨g,0,none⟩), .int .i64 l.length]).run Tryz.prog w.drew= .ok (.string ⟨l.toArray⟩) (w.drew.freeze ⟨g,0,none⟩ l.length):=by
  refine Lib.run_unsafeString_row w.drew 213 3 9 5 Tryz.underlying213 byteCells g cells hsh l h0 hcl (by omega) ?_
  intro j x hx
  have:=hcell j x hx
  rw[Addr.add_lit,UD]
  exact this
 go_enter Tryz.func95,Tryz.ntmps95
 go_wp2
 go_region
 all_goals (go_wp2;go_ret;exact⟨rfl,rfl⟩)
theorem JP {P:Program} {w:World} {b:Nat} (h:b<w.heap.size):∃r,(viewAt b).run P w= .ok r w:=by
 obtain⟨o,ho⟩:∃o,w.heap[b]? =some o:=⟨_,Uj h⟩
 unfold viewAt
 cases hs:w.shape? b with
 |some sh=>exact⟨none,by simp[hs]⟩
 |none=>
  cases o with
  |cells c e fr=>simp[World.shape?,ho]at hs
  |view p t=>
   have hg:(getObj b).run P w= .ok (.view p t) w:=by simp[getObj,Sem.run,ho]
   exact⟨_,by simp[hs,hg];rfl⟩
  |_=>
   have hg:∃x,(getObj b).run P w= .ok x w∧∀p t,x≠ .view p t:=⟨_,by simp only[getObj,Sem.run,ho];exact⟨rfl,fun p t e=>by cases e⟩⟩
   obtain⟨x,hg,hx⟩:=hg
   refine⟨none,?_⟩
   simp[hs,hg]
set_option maxHeartbeats 2000000 in
set_option maxRecDepth 100000 in
theorem FB (b cap:Nat) (a:Option Addr) (w:World) (hc1:w.cell? ⟨b,1,none⟩=some (.slice a 0 cap)) (ha:∀p,a=some p→p.block<w.heap.size):
  Calls Tryz.prog 95 #[.pointer (some ⟨b,0,none⟩)] w fun e w' =>e= .returned (.string ⟨#[]⟩)∧(w' =w.drew∨∃o,w' =w.drew.alloc o):=by
 have hUS:∀q W,(Builtin.unsafeString_ #[213,3] 9 #[.pointer q, .int .i64 0]).run Tryz.prog W= .ok (.string .empty) W:=fun q W=>Lib.run_unsafeString_none W _ _ _ q
 have hbl:b<w.heap.size:=World.block_lt_of_cell? w _ hc1
 have c1:w.drew.cell? ⟨b,1,none⟩=some (.slice a 0 cap):=hc1
 have hSD:∃q W,(Builtin.unsafeSliceData_ #[22] 213 #[.slice a 0 cap]).run Tryz.prog w.drew= .ok (.pointer q) W∧(W=w.drew∨∃o,W=w.drew.alloc o):=by
  cases a with
  |none=>exact⟨none,_,rfl, .inl rfl⟩
  |some p=>
   by_cases h0:cap=0
   ·subst h0
    obtain⟨r,hr⟩:=JP (P:=Tryz.prog) (w:=w.drew) (b:=p.block) (ha p rfl)
    have hdef:Builtin.unsafeSliceData_ #[22] 213 #[.slice (some p) 0 0]=
      (do
       if(0:Nat)≠0 then pure (.pointer (some p))
       else if(←viewAt p.block).isSome then pure (.pointer (some p))
       else pure (.pointer (some ⟨←newObj (.view p (←elemOf 213)),0,none⟩))):=rfl
    rw[hdef]
    cases r with
    |some r=>exact⟨some p,w.drew,by simp[hr], .inl rfl⟩
    |none=>exact⟨_,_,by simp[hr,elemOf,run_underlying Tryz.underlying213];exact⟨rfl,rfl⟩, .inr ⟨_,rfl⟩⟩
   ·exact⟨some p,w.drew,Lib.run_unsafeSliceData_row _ _ _ _ _ _ h0, .inl rfl⟩
 obtain⟨q,W,hSD,hW⟩:=hSD
 have c2:W.cell? ⟨b,1,none⟩=some (.slice a 0 cap):=by
  rcases hW with rfl|⟨o,rfl⟩
  ·exact c1
  ·exact(World.cell?_of_block (Below.heap_alloc w.drew o b hbl)).trans c1
 go_enter Tryz.func95,Tryz.ntmps95
 go_wp2
 go_region
 all_goals (go_wp2;go_ret;exact⟨rfl,hW⟩)
end Go.Proofs.YtgpofjbdjiajeaaGreatDoor
end
section
namespace Go.Ev
section
variable {c : Cfg} {E : Ent} {w w' : World} {G G' : Gh} {μ : List Nat} {env : List V} {tmps : List Value} {objs : List Ob}
theorem Sim.regrind (h:Sim c E w G μ env tmps objs) {g:Nat} (hg:g<E.w.heap.size→E.U g) (hfree:cnt g (aH aG env tmps)+cnt g (aM w objs μ)+μ.count g=0)
  (hk:∀k,k≠g→w'.heap[k]? =w.heap[k]?) (hcell:∀o,w'.cell? ⟨g,o,none⟩=w.cell? ⟨g,o,none⟩) (hs:w'.heap.size=w.heap.size) (hos:w'.os=w.os) (hout:w'.output=w.output) (htape:w'.tape=w.tape):
  Sim c E w' G μ env tmps objs:=by
 have hseal:iT w G w' G:=⟨fun b o _=>by
  by_cases hb:b=g
  ·subst hb;exact hcell o
  ·exact bU (hk b hb),fun _=>TY _,by omega⟩
 have hμ:∀b∈μ,b≠g:=fun b hb e=>by subst e;have:=UQ.2 hb;omega
 have hO:aM w' objs μ=aM w objs μ:=cG objs μ fun b hb=>hk b (hμ b hb)
 have hl:∀l∈aH aG env tmps++aM w objs μ,l.a.block≠g:=fun l hl e=>by
  rw[TV]at hl
  rcases hl with hl|hl
  ·have:=cP.2 ⟨l,hl,e⟩;omega
  ·have:=cP.2 ⟨l,hl,e⟩;omega
 refine⟨⟨h.inv.len,fun i v x hv hx=>(h.inv.rep i v x hv hx).mono hseal,h.inv.olen,fun i o b ho hb=>(h.inv.obs i o b ho hb).mono hseal (hk b (hμ b (Uu hb))),
  fun b=>by rw[hO];exact h.inv.one b,fun l hl' =>?_,fun b hb=>⟨by rw[hs];exact(h.inv.mine b hb).1,(h.inv.mine b hb).2⟩,fun b hb=>h.inv.none b (by omega),fun g1 k1 hg1=>(h.inv.glob g1 k1 hg1).mono hseal⟩,
  ⟨by rw[hs];exact h.stp.size,h.stp.sealed.trans hseal,fun b hb hu=>?_,hos.trans h.stp.os,hout.trans h.stp.out,htape.trans h.stp.tape⟩,fun b hb hc=>h.own b hb (by rw[hO]at hc;exact hc),h.pre⟩
 ·rw[hO]at hl'
  exact(h.inv.ok l hl').same (hk _ (hl l hl')) rfl hseal
 ·have hne:b≠g:=fun e=>hu (by subst e;exact hg hb)
  exact⟨(hk b hne).trans (h.stp.keep b hb hu).1,(h.stp.keep b hb hu).2⟩
theorem Sim.begin_ {args:List V} {cargs:List Value} (hinv:Inv c w G μ args cargs objs):Sim c (entry w G μ args cargs objs) w G μ args cargs objs:=
 ⟨hinv,⟨TY _,iT.refl w G,fun _ _ _=>⟨rfl,rfl⟩,rfl,rfl,rfl⟩,fun b _ h=>h,[],by simp[entry]⟩
def Aw:Fun
 |[.ref 0 0],[.cells [.opt 0 0, .lst 5 true xs]]=>some (.tup [],[.cells [.opt 0 0, .lst 5 true xs]])
 |_,_=>none
def yF:V→Bool
 | .int .u8 n=>decide (0≤n)&&decide (n<256)
 |_=>false
theorem wX:∀{xs:List V},xs.all yF=true→ofBytes (bytesOf xs)=xs
 |[],_=>rfl
 |v::xs,h=>by
  simp only[List.all_cons,TR]at h
  have ih:=wX h.2
  cases v with
  |int k n=>
   cases k<;>simp[yF]at h
   simp only[bytesOf,ofBytes,UE,V.getI]at ih ⊢
   rw[ih]
   congr 2
   have:=h.1
   simp
   omega
  |_=>simp[yF]at h
def textF:Fun
 |[.ref 0 0],[.cells [.opt 0 0, .lst 5 true xs]]=>if xs.all yF&&decide (xs.length<1152921504606846976)then some (.str (bytesOf xs),[.cells [.opt 0 0, .lst 5 false xs]])else none
 |_,_=>none
end
end Go.Ev
namespace Go.Proofs.YtgpofjbdjiajeaaGreatDoor
open Go.Shelf Go.RowKit Go.Ev
theorem La {c:Cfg} (hP:c.P=Tryz.prog) (hb:∀t,c.bld t=true→t=190) (hcut:c.cutO 115=false)
  (hr:∀fn rsh,c.fn 115=some fn→fZ c 115 fn=some rsh→jK rsh (.tup [])=true):bW c 115 Aw:=by
 have hF:∀args objs v objs',Aw args objs=some (v,objs')→∃xs,args=[.ref 0 0]∧objs=[.cells [.opt 0 0, .lst 5 true xs]]∧v= .tup []∧objs' =objs:=by
  intro args objs v objs' h
  unfold Aw at h
  split at h
  ·cases h;exact⟨_,rfl,rfl,rfl,rfl⟩
  ·cases h
 refine⟨fun args objs v objs' _ h=>?_,fun fn rsh hfn hrsh args objs v objs' h w G μ cargs hlen hinv=>?_⟩
 ·obtain⟨_,_,_,_,e⟩:=hF _ _ _ _ h
  exact e
 ·obtain⟨xs,rfl,rfl,rfl,rfl⟩:=hF _ _ _ _ h
  refine⟨hr fn rsh hfn hrsh,?_,?_⟩
  ·simp[Cfg.osh,hcut,OSh.of,iH,OSh.fits,CSh.of,dB,CSh.fits]
  ·have hol:=hinv.olen
   obtain⟨b,rfl⟩:∃b,μ=[b]:=by
    match μ,hol with
    |[b],_=>exact⟨b,rfl⟩
   have hsim:=Sim.begin_ hinv
   obtain⟨x,rfl⟩:∃x,cargs=[x]:=by
    match cargs,hlen with
    |[x],_=>exact⟨x,rfl⟩
   obtain⟨b',hb',rfl⟩:=mX (hinv.rep 0 _ _ rfl rfl) rfl
   simp at hb'
   subst hb'
   obtain⟨l,elem,fr,h1,h2,h3,h4,h5,h6⟩:=hinv.obs 0 _ _ rfl rfl
   have hel:=hb elem (h6 0 0 rfl)
   subst hel
   match l,h3 with
   |[x0,x1],_=>
    have hr0:=h5 0 _ x0 rfl rfl
    have fin:∀w',Sim c (entry w G [b] [.ref 0 0] [.pointer (some ⟨b,0,none⟩)] [.cells [.opt 0 0, .lst 5 true xs]]) w' G [b] [.ref 0 0] [.pointer (some ⟨b,0,none⟩)] [.cells [.opt 0 0, .lst 5 true xs]]→
      Sim c (entry w G [b] [.ref 0 0] [.pointer (some ⟨b,0,none⟩)] [.cells [.opt 0 0, .lst 5 true xs]]) w' G [b] [.tup []] [.tuple #[]] [.cells [.opt 0 0, .lst 5 true xs]]:=fun w' hs=>
     (hs.push (v:= .tup []) (x:= .tuple #[]) (.tup [] [] rfl (fun i v x hv=>by simp at hv)) rfl).firsts (fr:=[.tup []]) (cfr:=[.tuple #[]]) rfl
    have hx0:x0= .pointer none∨x0= .pointer (some ⟨b,0,none⟩):=by
     cases hr0 with
     |opt _ _ b' _ hb' hx=>simp at hb';subst hb';exact hx
    have hc0:w.cell? ⟨b,0,none⟩=some x0:=by simp[World.cell?,h1]
    rw[hP]
    rcases hx0 with rfl|rfl
    ·have hsh:w.shape? b=some (190,2):=by simp[World.shape?,h1]
     have hfz:w.frozen? ⟨b,0,none⟩=false:=by
      have:=h2 0 (by simp)
      simp[World.frozen?,h1]
      omega
     refine(Fz b w hc0 hsh hfz).mono ?_
     rintro e w' ⟨rfl,rfl⟩
     refine⟨_,G,rfl,fin _ ?_⟩
     have hlt:=eI h1
     have hw:(w.setCell ⟨b,0,none⟩ (.pointer (some ⟨b,0,none⟩))).heap[b]? =some (.cells [.pointer (some ⟨b,0,none⟩),x1].toArray 190 fr):=by
      simp only[World.setCell,Vs,h1,if_true]
      rfl
     have hother:∀k,k≠b→(w.setCell ⟨b,0,none⟩ (.pointer (some ⟨b,0,none⟩))).heap[k]? =w.heap[k]? :=fun k hk=>Below.heap_setCell _ _ _ k hk
     have hG:=(hinv.mine b (by simp)).2
     have hseal:iT w G (w.setCell ⟨b,0,none⟩ (.pointer (some ⟨b,0,none⟩))) G:=by
      refine⟨fun k o ho=>?_,fun _=>TY _,by simp[World.setCell]⟩
      have:k≠b:=fun e=>by rw[e,hG]at ho;omega
      exact bU (hother k this)
     have:=hsim.reob (i:=0) (b:=b) (o:= .cells [.opt 0 0, .lst 5 true xs]) (o' := .cells [.opt 0 0, .lst 5 true xs]) (w' :=w.setCell ⟨b,0,none⟩ (.pointer (some ⟨b,0,none⟩)))
      (env' :=[.ref 0 0]) (tmps' :=[.pointer (some ⟨b,0,none⟩)]) rfl rfl hother (by simp[World.setCell]) rfl rfl rfl (by simp) hinv.rep ?_ (fun q=>?_) (fun l hl=>?_)
     ·exact this
     ·refine⟨[.pointer (some ⟨b,0,none⟩),x1],_,fr,hw,h2,rfl,fun y hy=>?_,fun i v y hv hy=>?_,h6⟩
      ·rcases UH.1 hy with rfl|hy
       ·rfl
       ·exact h4 y (List.mem_cons_of_mem _ hy)
      ·match i,hv,hy with
       |0,hv,hy=>simp at hv hy;subst hv;subst hy;exact .opt 0 0 b _ rfl (.inr rfl)
       |1,hv,hy=>simp at hv hy;subst hv;subst hy;exact(h5 1 _ x1 rfl rfl).mono hseal
     ·have e1:bF (w.setCell ⟨b,0,none⟩ (.pointer (some ⟨b,0,none⟩))) (.cells [.opt 0 0, .lst 5 true xs]) b=bF w (.cells [.opt 0 0, .lst 5 true xs]) b:=by
       simp[bF,cC,hw,h1,aH,aS]
      rw[e1];exact TY _
     ·have e1:bF (w.setCell ⟨b,0,none⟩ (.pointer (some ⟨b,0,none⟩))) (.cells [.opt 0 0, .lst 5 true xs]) b=bF w (.cells [.opt 0 0, .lst 5 true xs]) b:=by
       simp[bF,cC,hw,h1,aH,aS]
      rw[e1]at hl;exact hl
    ·refine(HH b w hc0).mono ?_
     rintro e w' ⟨rfl,rfl⟩
     exact⟨_,G,rfl,fin _ hsim⟩
theorem Na {c:Cfg} (hc:bA c) (hP:c.P=Tryz.prog) (hcut:c.cutO 95=true) (hsz:aE c 5=1) (hro:c.ro 95=false)
  (hr:∀fn rsh s,c.fn 95=some fn→fZ c 95 fn=some rsh→jK rsh (.str s)=true):bW c 95 textF:=by
 have hF:∀args objs v objs',textF args objs=some (v,objs')→∃xs,args=[.ref 0 0]∧objs=[.cells [.opt 0 0, .lst 5 true xs]]∧v= .str (bytesOf xs)∧objs' =[.cells [.opt 0 0, .lst 5 false xs]]∧
   xs.all yF=true∧xs.length<1152921504606846976:=by
  intro args objs v objs' h
  unfold textF at h
  split at h
  ·split at h
   ·rename_i hx
    simp only[TR,decide_eq_true_eq]at hx
    cases h
    exact⟨_,rfl,rfl,rfl,rfl,hx⟩
   ·cases h
  ·cases h
 refine⟨fun args objs v objs' hq h=>?_,fun fn rsh hfn hrsh args objs v objs' h w G μ cargs hlen hinv=>?_⟩
 ·obtain⟨xs,_,rfl,_⟩:=hF _ _ _ _ h
  rcases hq with hq|⟨_,hq⟩
  ·rw[hro]at hq;cases hq
  ·cases hq
 ·obtain⟨xs,rfl,rfl,rfl,rfl,hby,hbig⟩:=hF _ _ _ _ h
  refine⟨hr fn rsh _ hfn hrsh,?_,?_⟩
  ·simp[Cfg.osh,hcut,OSh.of,OSh.soft,iH,OSh.fits,CSh.of,CSh.soft,dB,CSh.fits]
  ·have hol:=hinv.olen
   obtain⟨b,rfl⟩:∃b,μ=[b]:=by
    match μ,hol with
    |[b],_=>exact⟨b,rfl⟩
   have hsim:=Sim.begin_ hinv
   obtain⟨x,rfl⟩:∃x,cargs=[x]:=by
    match cargs,hlen with
    |[x],_=>exact⟨x,rfl⟩
   obtain⟨b',hb',rfl⟩:=mX (hinv.rep 0 _ _ rfl rfl) rfl
   simp at hb'
   subst hb'
   obtain⟨l,elem,fr,h1,h2,h3,h4,h5,h6⟩:=hinv.obs 0 _ _ rfl rfl
   match l,h3 with
   |[x0,x1],_=>
    obtain⟨a,cap,lo,rfl,hl,hrr,hf,hs,hz,hcap,ha,hrow⟩:=oP (h5 1 _ x1 rfl rfl) rfl
    have hc1:w.cell? ⟨b,1,none⟩=some (.slice a xs.length cap):=by simp[World.cell?,h1]
    have hcat:cC w b=[x0, .slice a xs.length cap]:=by unfold cC;rw[h1]
    have hcutS:Sim c (entry w G [b] [.ref 0 0] [.pointer (some ⟨b,0,none⟩)] [.cells [.opt 0 0, .lst 5 true xs]]) w G [b] [.ref 0 0] [.pointer (some ⟨b,0,none⟩)] [.cells [.opt 0 0, .lst 5 false xs]]:=by
     have:=hsim.reob (i:=0) (b:=b) (o:= .cells [.opt 0 0, .lst 5 true xs]) (o' := .cells [.opt 0 0, .lst 5 false xs]) (w' :=w)
      (env' :=[.ref 0 0]) (tmps' :=[.pointer (some ⟨b,0,none⟩)]) rfl rfl (fun _ _=>rfl) rfl rfl rfl rfl (by simp) hinv.rep ?_ (fun q=>?_) (fun l hl=>?_)
     ·exact this
     ·refine⟨[x0, .slice a xs.length cap],elem,fr,h1,h2,rfl,h4,fun i v y hv hy=>?_,h6⟩
      match i,hv,hy with
      |0,hv,hy=>simp at hv hy;subst hv;subst hy;exact h5 0 _ _ rfl rfl
      |1,hv,hy=>simp at hv hy;subst hv;subst hy;exact(h5 1 _ _ rfl rfl).cut1
     ·have:bF w (.cells [.opt 0 0, .lst 5 false xs]) b=[]:=by simp[bF,hcat,aH,aS]
      rw[this];simp[cnt]
     ·have:bF w (.cells [.opt 0 0, .lst 5 false xs]) b=[]:=by simp[bF,hcat,aH,aS]
      rw[this]at hl
      rcases hl with hl|hl
      ·exact .inl hl
      ·cases hl
    have fin:∀w' G' s,Sim c (entry w G [b] [.ref 0 0] [.pointer (some ⟨b,0,none⟩)] [.cells [.opt 0 0, .lst 5 true xs]]) w' G' [b] [.ref 0 0] [.pointer (some ⟨b,0,none⟩)] [.cells [.opt 0 0, .lst 5 false xs]]→
      Sim c (entry w G [b] [.ref 0 0] [.pointer (some ⟨b,0,none⟩)] [.cells [.opt 0 0, .lst 5 true xs]]) w' G' [b] [.str s] [.string ⟨s.toArray⟩] [.cells [.opt 0 0, .lst 5 false xs]]:=fun w' G' s hs=>
     (hs.push (v:= .str s) (x:= .string ⟨s.toArray⟩) (.str s) rfl).firsts (fr:=[.str s]) (cfr:=[.string ⟨s.toArray⟩]) rfl
    rw[hP]
    by_cases hx0:xs=[]
    ·subst hx0
     refine(FB b cap a w hc1 ha.2).mono ?_
     rintro e w' ⟨rfl,hw⟩
     have hd:=hcutS.ext (eH.of_drew hinv.none)
     rcases hw with rfl|⟨o,rfl⟩
     ·exact⟨_,G,rfl,fin _ _ [] hd⟩
     ·exact⟨_,_,rfl,fin _ _ [] (hd.ext (eH.of_alloc (w:=w.drew) (G:=G) hd.inv.none o 0))⟩
    ·have hpos:0<xs.length:=U6.2 hx0
     cases ha0:a with
     |none=>have:=ha.1 ha0;omega
     |some p=>
      subst ha0
      have hmem:(⟨5,p,xs.length,cap,none⟩:eC)∈aM w [.cells [.opt 0 0, .lst 5 true xs]] [b]:=by
       have hcp:0<cap:=by omega
       simp[aM,hcat,aH,aS,hcp]
      obtain⟨g1,cs,el,fr',g2,g3,g4,g5,g6,g7⟩:=hinv.ok _ (List.mem_append_right _ hmem)
      simp only at g1 g2 g4 g6 g7
      subst g6
      obtain⟨pb,po,ps⟩:=p
      simp only at g1 g2 g4 g7
      subst g1;subst g7
      obtain⟨_,hrow⟩:=hrow _ rfl hx0
      have hxb:=wX hby
      have hlo:lo=(bytesOf xs).map (fun b=>Value.int .u8 b.toNat):=by
       apply UK
       intro i
       by_cases hi:i<xs.length
       ·have e1:xs[i]? =(ofBytes (bytesOf xs))[i]? :=by rw[hxb]
        have hbl:(bytesOf xs).length=xs.length:=by simp[bytesOf]
        simp only[ofBytes,UC]at e1
        rw[TP (by omega:i<(bytesOf xs).length)]at e1
        have:=bS (hrr i _ lo[i] e1 (TP (by omega))) rfl
        rw[TP (by omega:i<lo.length),this,UC,TP (by omega:i<(bytesOf xs).length)]
        rfl
       ·have hbl:(bytesOf xs).length=xs.length:=by simp[bytesOf]
        rw[Ut (by omega),Ut (by simp;omega)]
      have hbl:(bytesOf xs).length=xs.length:=by simp[bytesOf]
      have hcell:∀j x,(bytesOf xs)[j]? =some x→w.cell? ⟨pb,j,none⟩=some (.int .u8 x.toNat):=by
       intro j x hj
       have:=(hrow j (.int .u8 x.toNat) (by rw[hlo,nM,UC,hj];rfl)).1
       simpa using this
      rw[hsz]at g4
      rw[←hbl]at hc1
      refine(FA b pb cap cs.size (bytesOf xs) w (fun e=>by rw[e]at hbl;simp at hbl;omega) hc1 (by omega) (by simp[World.shape?,g2]) (by omega) (by omega) hcell).mono ?_
      rintro e w' ⟨rfl,rfl⟩
      refine⟨_,G,rfl,fin _ _ _ ?_⟩
      have hd:=hcutS.ext (eH.of_drew hinv.none)
      have hone:=hinv.one pb
      have hcl:0<cnt pb (aM w [.cells [.opt 0 0, .lst 5 true xs]] [b]):=cP.2 ⟨_,hmem,rfl⟩
      refine hd.regrind (g:=pb) (fun _=>?_) ?_ (fun k hk=>?_) (fun o=>?_) ?_ ?_ ?_ ?_
      ·simp only[entry];omega
      ·have e0:aM w.drew [.cells [.opt 0 0, .lst 5 false xs]] [b]=[]:=by
        have:cC w.drew b=[x0, .slice (some ⟨pb,0,none⟩) xs.length cap]:=hcat
        simp[aM,this,aH,aS]
       rw[e0]
       have e1:cnt pb (aH aG [V.ref 0 0] [Value.pointer (some ⟨b,0,none⟩)])=0:=rfl
       rw[e1]at hone ⊢
       simp only[uG]
       omega
      ·unfold World.freeze
       split
       ·rfl
       ·simp only[Vs];rw[if_neg (fun e=>hk e.symm)]
      ·unfold World.freeze
       split
       ·rfl
       ·simp only[World.cell?,Vs]
        have g2' :w.drew.heap[pb]? =some (.cells cs 5 fr'):=g2
        rw[g2']
        rfl
      ·unfold World.freeze;split<;>simp
      ·unfold World.freeze;split<;>rfl
      ·unfold World.freeze;split<;>rfl
      ·unfold World.freeze;split<;>rfl
end Go.Proofs.YtgpofjbdjiajeaaGreatDoor
end
section
namespace Go.Proofs.YtgpofjbdjiajeaaGreatDoor
open Go.Ev Go
def cutV (p:Nat×Nat):V:= .agg [.int .i64 p.1, .int .i64 p.2]
inductive Pt
 |mk (kind:Nat) (head body:Nat×Nat) (kids:List Pt) (cuts:List (Nat×Nat)) (fin:Nat×Nat)
mutual
def partV:Pt→V
 | .mk k h b kids cuts e=> .agg [.int .i64 (k:Nat), .int .i64 (h.1:Nat), .int .i64 (h.2:Nat), .int .i64 (b.1:Nat), .int .i64 (b.2:Nat), .lst 31 false (gV kids), .lst 27 false (cuts.map cutV), .int .i64 (e.1:Nat), .int .i64 (e.2:Nat)]
def gV:List Pt→List V
 |[]=>[]
 |p::r=>partV p::gV r
end
theorem fD:∀l:List Pt,gV l=l.map partV
 |[]=>rfl
 |p::r=>by rw[gV,fD r];rfl
theorem FC:∀l m:List (Nat×Nat),l.map cutV=m.map cutV→l=m
 |[],[],_=>rfl
 |[],_::_,h=>by simp at h
 |_::_,[],h=>by simp at h
 |(a,b)::r,(c,d)::m,h=>by
  simp only[UE,List.cons.injEq,cutV,V.agg.injEq,V.int.injEq,true_and,and_true,Int.natCast_inj]at h
  obtain⟨⟨rfl,rfl⟩,h⟩:=h
  rw[FC r m h]
mutual
theorem Cr:∀p q:Pt,partV p=partV q→p=q
 | .mk k h b kids cuts e, .mk k' h' b' kids' cuts' e',heq=>by
  rw[partV,partV]at heq
  simp only[V.agg.injEq,List.cons.injEq,V.int.injEq,V.lst.injEq,true_and,and_true,Int.natCast_inj]at heq
  obtain⟨rfl,h1,h2,h3,h4,h5,h6,h7,h8⟩:=heq
  have hk:=Ax kids kids' h5
  have hc:=FC cuts cuts' h6
  subst hk hc
  obtain⟨a1,a2⟩:=h;obtain⟨c1,c2⟩:=h';obtain⟨a3,a4⟩:=b;obtain⟨c3,c4⟩:=b';obtain⟨a5,a6⟩:=e;obtain⟨c5,c6⟩:=e'
  simp_all
theorem Ax:∀l m:List Pt,gV l=gV m→l=m
 |[],[],_=>rfl
 |[],_::_,h=>by simp[gV]at h
 |_::_,[],h=>by simp[gV]at h
 |p::r,q::m,h=>by
  simp only[gV,List.cons.injEq]at h
  rw[Cr p q h.1,Ax r m h.2]
end
def fX:List (Nat×Nat)→List (List (Nat×Nat×Nat))→List (Nat×Nat×Nat)
 |c::cs,t::ts=>(3,c.1,c.2)::t++fX cs ts
 |_,_=>[]
mutual
def aV:Pt→List (Nat×Nat×Nat)
 | .mk k h b kids cuts e=>(0,h.1,h.2)::
  (if k=1 then(2,b.1,if 0<min cuts.length kids.length then(cuts.getD 0 (0,0)).1 else e.1)::(fX cuts (bR kids)++[(4,e.1,e.2),(5,e.2,b.2)])
   else if k=2 then(bR kids).headD []else[(1,b.1,b.2)])
def bR:List Pt→List (List (Nat×Nat×Nat))
 |[]=>[]
 |p::r=>aV p::bR r
end
def chainT:Int→List (Nat×Nat×Nat)→Option Int
 |a,[]=>some a
 |a,t::r=>if(t.2.1:Int)=a∧a≤(t.2.2:Int)then chainT (t.2.2:Nat) r else none
def yZ (c d:Int) (ft:Bool) (a b n:Int) (ts:List (Nat×Nat×Nat)):Int:=
 if c>1000∨d>32 then 13 else if ft=false∨¬(a=0∧b=n)then 11 else if chainT 0 ts=some n then 0 else 11
noncomputable def Ay (v:V):Option (List (Nat×Nat×Nat)):=
 open Classical in if h:∃p,v=partV p∧(aV p).length<1099511627776 then some (aV h.choose)else none
theorem FD {v:V} {l:List (Nat×Nat×Nat)} (h:Ay v=some l):∃p,v=partV p∧(aV p).length<1099511627776∧l=aV p:=by
 unfold Ay at h
 split at h
 ·rename_i hp
  cases h
  exact⟨hp.choose,hp.choose_spec.1,hp.choose_spec.2,rfl⟩
 ·cases h
theorem JQ (p:Pt) (h:(aV p).length<1099511627776):Ay (partV p)=some (aV p):=by
 have hp:∃q,partV p=partV q∧(aV q).length<1099511627776:=⟨p,rfl,h⟩
 unfold Ay
 rw[dif_pos hp]
 exact congrArg (fun q=>some (aV q)) (Cr _ _ hp.choose_spec.1).symm
end Go.Proofs.YtgpofjbdjiajeaaGreatDoor
end
section
namespace Go.Proofs.YtgpofjbdjiajeaaGreatDoor
open Go.Ev Go Go.RowKit Go.Shelf Go.Rg
def nA (w:World) (B o:Nat) (cs:List Value):Prop:=∀j x,cs[j]? =some x→w.cell? ⟨B,o+j,none⟩=some x
def Lb (w:World) (cuts:List (Nat×Nat)) (a:Option Addr):Prop:=∀i c,cuts[i]? =some c→∃B o,a=some ⟨B,o,none⟩∧nA w B (o+i*2) [.int .i64 (c.1:Nat), .int .i64 (c.2:Nat)]
mutual
def PIs (w:World):Pt→Value→Prop
 | .mk k h b kids cuts e,x=>∃(ka ca:Option Addr) (kcap ccap:Nat),x= .agg #[.int .i64 (k:Nat), .int .i64 (h.1:Nat), .int .i64 (h.2:Nat), .int .i64 (b.1:Nat), .int .i64 (b.2:Nat), .slice ka kids.length kcap, .slice ca cuts.length ccap, .int .i64 (e.1:Nat), .int .i64 (e.2:Nat)]∧
   kids.length≤kcap∧cuts.length≤ccap∧sA w kids ka 0∧Lb w cuts ca
def sA (w:World):List Pt→Option Addr→Nat→Prop
 |[],_,_=>True
 |p::r,a,i=>(∃B o cs,a=some ⟨B,o,none⟩∧PIs w p (.agg cs.toArray)∧nA w B (o+i*9) cs)∧sA w r a (i+1)
end
theorem nA.below {base W:World} {B o:Nat} {cs:List Value} (h:nA base B o cs) (hb:Below base.heap.size base W):nA W B o cs:=by
 intro j x hj
 have h1:=h j x hj
 have hB:=World.block_lt_of_cell? base _ h1
 exact(hb.cell (p:=⟨B,o+j,none⟩) hB).trans h1
mutual
theorem PIs.below {base W:World} (hb:Below base.heap.size base W):∀(p:Pt) (x:Value),PIs base p x→PIs W p x
 | .mk k h b kids cuts e,x,hp=>by
  rw[PIs]at hp ⊢
  obtain⟨ka,ca,kcap,ccap,hx,h1,h2,h3,h4⟩:=hp
  exact⟨ka,ca,kcap,ccap,hx,h1,h2,sA.below hb kids ka 0 h3,fun i c hc=>by
   obtain⟨B,o,ha,hl⟩:=h4 i c hc
   exact⟨B,o,ha,hl.below hb⟩⟩
theorem sA.below {base W:World} (hb:Below base.heap.size base W):∀(l:List Pt) (a:Option Addr) (i:Nat),sA base l a i→sA W l a i
 |[],a,i,_=>by rw[sA];trivial
 |p::r,a,i,hp=>by
  rw[sA]at hp ⊢
  obtain⟨⟨B,o,cs,ha,h1,h2⟩,h3⟩:=hp
  exact⟨⟨B,o,cs,ha,PIs.below hb p _ h1,h2.below hb⟩,sA.below hb r a (i+1) h3⟩
end
theorem Nb {s:Nat} {l:List Value} (h:∀x∈l,x.cells.size=s) {j:Nat} {x:Value} (hj:l[j]? =some x) {t:Nat} {z:Value} (ht:x.cells.toList[t]? =some z):(flat l)[j*s+t]? =some z:=by
 refine wE h (k:=j) (m:=j+1) t z ?_
 have hjl:=(TQ.1 hj).1
 have e:(l.take (j+1)).drop j=[x]:=by
  rw[VE,hj,List.drop_append_of_le_length (by rw[Vo];omega),UB (by rw[Vo];omega)]
  rfl
 rw[e]
 simpa[flat]using ht
theorem yG {c:Cfg} {w:World} {G:Gh} {B o:Nat} {l:List Value} {s:Nat} (h:pO w G B o (flat l)) (hs:∀x∈l,x.cells.size=s) {j:Nat} {cs:List Value} (hj:l[j]? =some (.agg cs.toArray)):nA w B (o+j*s) cs:=by
 intro t z ht
 have:=(h (j*s+t) z (Nb hs hj (by simpa[Value.cells]using ht))).1
 rw[Vf]
 exact this
set_option maxRecDepth 100000 in
mutual
theorem Az {c:Cfg} (tySize28:aE c 31=9) (tySize24:aE c 27=2) {w:World} {G:Gh}:∀(p:Pt) (x:Value),Rep c w G [] (partV p) x→PIs w p x
 | .mk k h b kids cuts e,x,hr=>by
  obtain⟨l,rfl,hl,_,hr⟩:=wB hr (by rw[partV,fD])
  match l,hl with
  |[a0,a1,a2,a3,a4,a5,a6,a7,a8],_=>
   have e0:=bS (hr 0 _ a0 rfl rfl) rfl
   have e1:=bS (hr 1 _ a1 rfl rfl) rfl
   have e2:=bS (hr 2 _ a2 rfl rfl) rfl
   have e3:=bS (hr 3 _ a3 rfl rfl) rfl
   have e4:=bS (hr 4 _ a4 rfl rfl) rfl
   have e7:=bS (hr 7 _ a7 rfl rfl) rfl
   have e8:=bS (hr 8 _ a8 rfl rfl) rfl
   obtain⟨ka,kcap,klo,e5,hklo,hkr,_,hks,_,hkcap,_,hkrow⟩:=oP (hr 5 _ a5 rfl rfl) rfl
   obtain⟨ca,ccap,clo,e6,hclo,hcr,_,hcs,_,hccap,_,hcrow⟩:=oP (hr 6 _ a6 rfl rfl) rfl
   subst e0 e1 e2 e3 e4 e5 e6 e7 e8
   rw[Ui]at hklo hkcap hclo hccap
   rw[tySize28]at hks
   rw[tySize24]at hcs
   rw[PIs]
   refine⟨ka,ca,kcap,ccap,by simp,hkcap,hccap,yH tySize28 tySize24 (G:=G) kids ka 0 (fun j q hj=>?_),fun i q hc=>?_⟩
   ·have hjl:=(TQ.1 hj).1
    have hrj:=hkr j (partV q) (klo[j]'(by omega)) (by rw[UC,hj];rfl) (TP (by omega))
    obtain⟨cs,hcs',_⟩:=wB (cs:=(match partV q with| .agg l=>l|_=>[])) hrj (by cases q;rw[partV])
    have hkl0:kids.map partV≠[]:=fun e=>by
     have:=congrArg US e
     simp at this;subst this;simp at hjl
    cases ka with
    |none=>exfalso;simp_all
    |some a=>
     obtain⟨g1,g2⟩:=hkrow a rfl hkl0
     obtain⟨B,o,spot⟩:=a
     simp only at g1
     subst g1
     refine⟨B,o,cs,rfl,by rw[←hcs'];exact hrj,?_⟩
     rw[UD]
     exact yG (c:=c) g2 hks (by rw[TP (by omega),hcs'])
   ·have hil:=(TQ.1 hc).1
    have hri:=hcr i (cutV q) (clo[i]'(by omega)) (by rw[UC,hc];rfl) (TP (by omega))
    obtain⟨cs,hcs',hcl,_,hcc⟩:=wB hri rfl
    match cs,hcl with
    |[u,v],_=>
     have eu:=bS (hcc 0 _ u rfl rfl) rfl
     have ev:=bS (hcc 1 _ v rfl rfl) rfl
     subst eu ev
     have hcl0:cuts.map cutV≠[]:=fun e=>by
      have:=congrArg US e
      simp at this;subst this;simp at hil
     cases ca with
     |none=>exfalso;simp_all
     |some a=>
      obtain⟨g1,g2⟩:=hcrow a rfl hcl0
      obtain⟨B,o,spot⟩:=a
      simp only at g1
      subst g1
      exact⟨B,o,rfl,yG (c:=c) g2 hcs (by rw[TP (by omega),hcs'])⟩
theorem yH {c:Cfg} (tySize28:aE c 31=9) (tySize24:aE c 27=2) {w:World} {G:Gh}:∀(l:List Pt) (a:Option Addr) (i:Nat),(∀(j:Nat) q,l[j]? =some q→∃B o cs,a=some ⟨B,o,none⟩∧Rep c w G [] (partV q) (.agg cs.toArray)∧nA w B (o+(i+j)*9) cs)→sA w l a i
 |[],a,i,_=>by rw[sA];trivial
 |p::r,a,i,h=>by
  rw[sA]
  obtain⟨B,o,cs,h1,h2,h3⟩:=h 0 p rfl
  refine⟨⟨B,o,cs,h1,Az tySize28 tySize24 (G:=G) p _ h2,by simpa using h3⟩,yH tySize28 tySize24 (G:=G) r a (i+1) fun j q hj=>?_⟩
  obtain⟨B,o,cs,h1,h2,h3⟩:=h (j+1) q (by simpa using hj)
  exact⟨B,o,cs,h1,h2,by rw[show i+1+j=i+(j+1)by omega];exact h3⟩
end
def AA (f:Nat) (pv:Value) (seg:List (Nat×Nat×Nat)) (base:World):Prop:=
 ∀(l:Nat) (xs:List (Nat×Nat×Nat)) (i:Nat) (J:Nat→World→Prop) (Jx:World→Prop) (T:World→Nat→Prop) (W:World),Go.Rg.Abides base J T→Go.Rg.Rounds Tryz.prog l eK xs J Jx T→
  (∀(k:Nat) x,seg[k]? =some x→xs[i+k]? =some x)→J i W→
  CallsIn Fence.wide 1 Tryz.prog f #[pv, .func (.yield l) #[] #[]] W fun e W' =>(e= .returned (.bool true)∧J (i+seg.length) W'∧Go.Rg.Kept T W W')∨(e= .returned (.bool false)∧Jx W')
end Go.Proofs.YtgpofjbdjiajeaaGreatDoor
end
section
namespace Go.Proofs.YtgpofjbdjiajeaaGreatDoor
open Go.RowKit Go.Shelf Go.Rg
attribute [local go_sem] Oper.semAt_some
def Sub (xs:List (Nat×Nat×Nat)) (i:Nat) (seg:List (Nat×Nat×Nat)):Prop:=∀(k:Nat) x,seg[k]? =some x→xs[i+k]? =some x
theorem Sub.head {xs:List (Nat×Nat×Nat)} {i:Nat} {x:Nat×Nat×Nat} {r:List (Nat×Nat×Nat)} (h:Sub xs i (x::r)):xs[i]? =some x∧Sub xs (i+1) r:=
 ⟨h 0 x rfl,fun k y hy=>by rw[show i+1+k=i+(k+1)by omega];exact h (k+1) y (by simpa using hy)⟩
theorem Sub.app {xs:List (Nat×Nat×Nat)} {i:Nat} {a b:List (Nat×Nat×Nat)} (h:Sub xs i (a++b)):Sub xs i a∧Sub xs (i+a.length) b:=
 ⟨fun k y hy=>h k y (by rw[TU (TQ.1 hy).1];exact hy),
  fun k y hy=>by rw[Vf];exact h (a.length+k) y (by rw[Ub (by omega)];simpa using hy)⟩
def D5 (T:World→Nat→Prop) (B:Nat) (cs:Array Value) (W:World):Prop:=W.heap[B]? =some (.cells cs 31 (0,0))∧¬T W B
theorem D5.cell {T:World→Nat→Prop} {B:Nat} {cs:Array Value} {W:World} (h:D5 T B cs W) (j:Nat) (v:Value) (hv:cs[j]? =some v):W.cell? ⟨B,j,none⟩=some v:=by
 simp only[World.cell?,h.1]
 exact hv
theorem D5.lt {T:World→Nat→Prop} {B:Nat} {cs:Array Value} {W:World} (h:D5 T B cs W):B<W.heap.size:=(TX.1 h.1).1
theorem D5.kept {T:World→Nat→Prop} {B:Nat} {cs:Array Value} {W W' :World} (h:D5 T B cs W) (hk:Go.Rg.Kept T W W'):D5 T B cs W' :=
 ⟨(hk.block B h.lt h.2).1.trans h.1,(hk.block B h.lt h.2).2⟩
theorem kept_trans {T:World→Nat→Prop} {A B C:World} (h:Go.Rg.Kept T A B) (h' :Go.Rg.Kept T B C):Go.Rg.Kept T A C:=
 ⟨Uy h.size h'.size,fun j hj hT=>by
  obtain⟨a,b⟩:=h.block j hj hT
  obtain⟨c,d⟩:=h'.block j (Up hj h.size) b
  exact⟨c.trans a,d⟩⟩
theorem IG {base:World} {J:Nat→World→Prop} {T:World→Nat→Prop} (hab:Go.Rg.Abides base J T) {i:Nat} {W:World} (h:J i W) (cs:Array Value):
  J i (W.alloc (.cells cs 31))∧D5 T W.heap.size cs (W.alloc (.cells cs 31))∧Go.Rg.Kept T W (W.alloc (.cells cs 31)):=by
 have hg:W.grownBy (W.alloc (.cells cs 31)) none:=World.grownBy_alloc _ _ _
 have hst:=hab.step i W _ none h hg (fun r e=>by cases e)
 refine⟨hst.1,⟨World.alloc_heap_new W _,fun ht=>Wg _ (hab.lt i W _ h (hst.2 _ ht))⟩,by simp,fun j hj hT=>⟨Below.heap_alloc _ _ j hj,fun ht=>hT (hst.2 j ht)⟩⟩
def HI (base:World) (kids:List Pt) (ka:Option Addr):Prop:=
 ∀(j:Nat) q,kids[j]? =some q→(aV q).length<1099511627776→∃(B o:Nat) (k f1 t1 f2 t2 f3 t3:Int) (na la nb lb:Nat) (a b:Option Addr),ka=some ⟨B,o,none⟩∧
  nA base B (o+j*9) [.int .i64 k, .int .i64 f1, .int .i64 t1, .int .i64 f2, .int .i64 t2, .slice a na la, .slice b nb lb, .int .i64 f3, .int .i64 t3]∧
  AA 70 (.agg #[.int .i64 k, .int .i64 f1, .int .i64 t1, .int .i64 f2, .int .i64 t2, .slice a na la, .slice b nb lb, .int .i64 f3, .int .i64 t3]) (aV q) base
def tL (b:Nat×Nat) (kids:List Pt) (cuts:List (Nat×Nat)) (e:Nat×Nat):List (Nat×Nat×Nat):=
 (2,b.1,if 0<min cuts.length kids.length then(cuts.getD 0 (0,0)).1 else e.1)::(fX cuts (bR kids)++[(4,e.1,e.2),(5,e.2,b.2)])
set_option maxRecDepth 100000 in
set_option maxHeartbeats 4000000 in
theorem JR (base:World) (k:Nat) (h b:Nat×Nat) (kids:List Pt) (cuts:List (Nat×Nat)) (e:Nat×Nat) (ka ca:Option Addr) (kcap ccap:Nat)
  (hkids:HI base kids ka) (hlen:(aV (.mk k h b kids cuts e)).length<1099511627776)
  (hm:k=1→AA 97 (.agg #[.int .i64 (k:Nat), .int .i64 (h.1:Nat), .int .i64 (h.2:Nat), .int .i64 (b.1:Nat), .int .i64 (b.2:Nat), .slice ka kids.length kcap, .slice ca cuts.length ccap, .int .i64 (e.1:Nat), .int .i64 (e.2:Nat)]) (tL b kids cuts e) base):
  AA 70 (.agg #[.int .i64 (k:Nat), .int .i64 (h.1:Nat), .int .i64 (h.2:Nat), .int .i64 (b.1:Nat), .int .i64 (b.2:Nat), .slice ka kids.length kcap, .slice ca cuts.length ccap, .int .i64 (e.1:Nat), .int .i64 (e.2:Nat)])
   (aV (.mk k h b kids cuts e)) base:=by
 intro l xs i J Jx T W hab hR hsub h0
 obtain⟨hJ1,hB1,hK1⟩:=IG hab h0 #[.int .i64 (k:Nat), .int .i64 (h.1:Nat), .int .i64 (h.2:Nat), .int .i64 (b.1:Nat), .int .i64 (b.2:Nat), .slice ka kids.length kcap, .slice ca cuts.length ccap, .int .i64 (e.1:Nat), .int .i64 (e.2:Nat)]
 have hsub:Sub xs i (aV (.mk k h b kids cuts e)):=hsub
 rw[aV]at hsub hlen ⊢
 generalize hrest:(if k=1 then(2,b.1,if 0<min cuts.length kids.length then(cuts.getD 0 (0,0)).1 else e.1)::(fX cuts (bR kids)++[(4,e.1,e.2),(5,e.2,b.2)])else if k=2 then(bR kids).headD []else[(1,b.1,b.2)])=rest at hsub hlen ⊢
 obtain⟨hx0,hsub1⟩:=hsub.head
 obtain⟨L,hL⟩:∃L,((0,h.1,h.2)::rest).length=L:=⟨_,rfl⟩
 rw[hL]
 simp only[Ua]at hL hlen
 obtain⟨fn,tmps,assign,body,hy,hRd⟩:=hR i _ _ hx0 hJ1
 refine callsIn_of_wp Tryz.func70 rfl trivial ?_ rfl
 simp only[Tryz.ntmps70,Vj,Ua,Uh,Wh,Wi,Vv,Vw,VO,VD,UV,UA]
 simp only[eK,Int.natCast_zero]at hy
 gi_wp2
 refine hRd.mono ?_
 rintro e' W2 (⟨rfl,hJ2,hK2⟩|⟨rfl,hJx⟩)
 case inr=>
  gi_wp2
  refine bodyPost_ret (results_tmp rfl _ _ _) rfl ?_
  exact .inr ⟨rfl,hJx⟩
 case inl=>
  have hB2:=hB1.kept hK2
  have c0:=hB2.cell 0 _ rfl
  have c1:=hB2.cell 1 _ rfl
  have c2:=hB2.cell 2 _ rfl
  have c3:=hB2.cell 3 _ rfl
  have c4:=hB2.cell 4 _ rfl
  have c5:=hB2.cell 5 _ rfl
  have c6:=hB2.cell 6 _ rfl
  have c7:=hB2.cell 7 _ rfl
  have c8:=hB2.cell 8 _ rfl
  have keep:∀W',Go.Rg.Kept T W2 W'→Go.Rg.Kept T W W' :=fun W' h=>kept_trans hK1 (kept_trans hK2 h)
  by_cases k1:k=1
  ·subst k1
   rw[if_pos rfl]at hrest
   have hcall:=hm rfl l xs (i+1) J Jx T W2 hab hR (by rw[←hrest]at hsub1;exact hsub1) hJ2
   gi_wp2
   refine⟨trivial,(callsIn_wide.2 (callsIn_wide.1 hcall)).mono ?_⟩
   rintro e' W3 (⟨rfl,hJ3,hK3⟩|⟨rfl,hJx⟩)
   ·gi_wp2
    refine bodyPost_ret (results_tmp rfl _ _ _) rfl ?_
    refine .inl ⟨rfl,?_,keep _ hK3⟩
    rw[←hL,←hrest]
    rw[Vf,Nat.add_comm 1]at hJ3
    exact hJ3
   ·gi_wp2
    refine bodyPost_ret (results_tmp rfl _ _ _) rfl ?_
    exact .inr ⟨rfl,hJx⟩
  ·by_cases k2:k=2
   ·subst k2
    rw[if_neg (by omega),if_pos rfl]at hrest
    cases kids with
    |nil=>
     gi_wp2
     refine⟨trivial,?_⟩
     gi_wp2
     refine bodyPost_ret (results_tmp rfl _ _ _) rfl ?_
     refine .inl ⟨rfl,?_,keep _ ⟨TY _,fun j _ hT=>⟨rfl,hT⟩⟩⟩
     rw[←hL,←hrest]
     exact hJ2
    |cons q r=>
     rw[bR,Uc]at hrest
     have z4:(((q::r).length:Int)==0)=false:=by simp;omega
     have z3:(0:Int)<((q::r).length:Int):=by simp
     obtain⟨B,o,kk,f1,t1,f2,t2,f3,t3,na,la,nb,lb,a,a',rfl,hl,hseg⟩:=hkids 0 q rfl (by rw[hrest];omega)
     have hcall:=hseg l xs (i+1) J Jx T W2 hab hR (by rw[←hrest]at hsub1;exact hsub1) hJ2
     have hbel:=hab.old _ _ hJ2
     have hl2:=hl.below hbel
     simp only[Nat.zero_mul,U2]at hl2
     have d0:W2.cell? ⟨B,o,none⟩=_:=hl2 0 _ rfl
     have d1:=hl2 1 _ rfl
     have d2:=hl2 2 _ rfl
     have d3:=hl2 3 _ rfl
     have d4:=hl2 4 _ rfl
     have d5:=hl2 5 _ rfl
     have d6:=hl2 6 _ rfl
     have d7:=hl2 7 _ rfl
     have d8:=hl2 8 _ rfl
     generalize hn:(q::r).length=n at*
     gi_wp2
     refine⟨trivial,(callsIn_wide.2 (callsIn_wide.1 hcall)).mono ?_⟩
     rintro e' W3 (⟨rfl,hJ3,hK3⟩|⟨rfl,hJx⟩)
     ·gi_wp2
      refine bodyPost_ret (results_tmp rfl _ _ _) rfl ?_
      refine .inl ⟨rfl,?_,keep _ hK3⟩
      rw[←hL,←hrest]
      rw[Vf,Nat.add_comm 1]at hJ3
      exact hJ3
     ·gi_wp2
      refine bodyPost_ret (results_tmp rfl _ _ _) rfl ?_
      exact .inr ⟨rfl,hJx⟩
   ·rw[if_neg k1,if_neg k2]at hrest
    have z1:¬((k:Int)=1):=by omega
    have z2:¬((k:Int)=2):=by omega
    rw[←hrest]at hsub1
    obtain⟨hx1,_⟩:=hsub1.head
    obtain⟨fn,tmps,assign,body,hy,hRd⟩:=hR (i+1) _ _ hx1 hJ2
    simp only[eK,Int.natCast_one]at hy
    gi_wp2
    refine hRd.mono ?_
    rintro e' W3 (⟨rfl,hJ3,hK3⟩|⟨rfl,hJx⟩)
    ·gi_wp2
     refine bodyPost_ret (results_tmp rfl _ _ _) rfl ?_
     refine .inl ⟨rfl,?_,keep _ hK3⟩
     rw[←hL,←hrest]
     exact hJ3
    ·gi_wp2
     refine bodyPost_ret (results_tmp rfl _ _ _) rfl ?_
     exact .inr ⟨rfl,hJx⟩
theorem Lc (cs:List (Nat×Nat)):fX cs []=[]:=by cases cs<;>rfl
theorem JS {cs:List (Nat×Nat)} {ts:List (List (Nat×Nat×Nat))} {j:Nat} {c:Nat×Nat} {t:List (Nat×Nat×Nat)} (hc:cs[j]? =some c) (ht:ts[j]? =some t):
  fX (cs.drop j) (ts.drop j)=(3,c.1,c.2)::t++fX (cs.drop (j+1)) (ts.drop (j+1)):=by
 obtain⟨h1,rfl⟩:=TQ.1 hc
 obtain⟨h2,rfl⟩:=TQ.1 ht
 rw[UM h1,UM h2]
 rfl
theorem Ld {cs:List (Nat×Nat)} {ts:List (List (Nat×Nat×Nat))} {j:Nat} (h:min cs.length ts.length≤j):fX (cs.drop j) (ts.drop j)=[]:=by
 rcases Nat.le_total cs.length ts.length with h1|h1
 ·rw[UB (by omega:cs.length≤j)];rfl
 ·rw[UB (by omega:ts.length≤j)];exact Lc _
theorem IH {t:List (Nat×Nat×Nat)}:∀(cs:List (Nat×Nat)) (ts:List (List (Nat×Nat×Nat))) (j:Nat),j<cs.length→ts[j]? =some t→t.length<(fX cs ts).length
 |c::cs,u::ts,0,_,h=>by simp at h;subst h;simp[fX];omega
 |c::cs,u::ts,j+1,hj,h=>by
  have:=IH cs ts j (by simpa using hj) (by simpa using h)
  simp only[fX,Ug,Ua]
  omega
theorem FG:∀(cs:List (Nat×Nat)) (ts:List (List (Nat×Nat×Nat))),min cs.length ts.length≤(fX cs ts).length
 |[],ts=>by simp
 |c::cs,[]=>by simp
 |c::cs,u::ts=>by
  have:=FG cs ts
  simp only[fX,Ug,Ua]
  omega
theorem wY:∀l:List Pt,bR l=l.map aV
 |[]=>rfl
 |p::r=>by rw[bR,wY r];rfl
set_option maxRecDepth 100000 in
set_option maxHeartbeats 4000000 in
theorem HJ (base:World) (h b:Nat×Nat) (kids:List Pt) (cuts:List (Nat×Nat)) (e:Nat×Nat) (ka ca:Option Addr) (kcap ccap:Nat)
  (hkids:HI base kids ka) (hcuts:Lb base cuts ca) (hk:kids.length≤kcap) (hc:cuts.length≤ccap) (hlen:(tL b kids cuts e).length<1099511627776):
  AA 97 (.agg #[.int .i64 1, .int .i64 (h.1:Nat), .int .i64 (h.2:Nat), .int .i64 (b.1:Nat), .int .i64 (b.2:Nat), .slice ka kids.length kcap, .slice ca cuts.length ccap, .int .i64 (e.1:Nat), .int .i64 (e.2:Nat)]) (tL b kids cuts e) base:=by
 intro l xs i J Jx T W hab hR hsub h0
 obtain⟨hJ1,hB1,hK1⟩:=IG hab h0 #[.int .i64 1, .int .i64 (h.1:Nat), .int .i64 (h.2:Nat), .int .i64 (b.1:Nat), .int .i64 (b.2:Nat), .slice ka kids.length kcap, .slice ca cuts.length ccap, .int .i64 (e.1:Nat), .int .i64 (e.2:Nat)]
 have hsub:Sub xs i (tL b kids cuts e):=hsub
 unfold tL at hsub hlen ⊢
 obtain⟨n,hn⟩:∃n,min cuts.length kids.length=n:=⟨_,rfl⟩
 have hzmin:=FG cuts (bR kids)
 have hzi:min (cuts.length:Int) (kids.length:Int)=n:=by omega
 have hkl:(bR kids).length=kids.length:=by rw[wY,Ui]
 rw[hkl,hn]at hzmin
 rw[hn]at hsub hlen ⊢
 generalize hte:(if 0<n then(cuts.getD 0 (0,0)).1 else e.1)=te at hsub hlen ⊢
 obtain⟨hx0,hsub1⟩:=hsub.head
 obtain⟨L,hL⟩:∃L,((2,b.1,te)::(fX cuts (bR kids)++[(4,e.1,e.2),(5,e.2,b.2)])).length=L:=⟨_,rfl⟩
 rw[hL]
 rw[Ua]at hL hlen
 have hn40:n<1099511627776:=by simp at hlen;omega
 obtain⟨fn,tmps,assign,body,hy,hRd⟩:=hR i _ _ hx0 hJ1
 simp only[eK,V6]at hy
 have keep:∀W',Go.Rg.Kept T (W.alloc (.cells #[.int .i64 1, .int .i64 (h.1:Nat), .int .i64 (h.2:Nat), .int .i64 (b.1:Nat), .int .i64 (b.2:Nat), .slice ka kids.length kcap, .slice ca cuts.length ccap, .int .i64 (e.1:Nat), .int .i64 (e.2:Nat)] 31)) W'→Go.Rg.Kept T W W' :=fun W' h=>kept_trans hK1 h
 have HS:Aside (Sub xs (i+1) (fX cuts (bR kids)++[(4,e.1,e.2),(5,e.2,b.2)])):=hsub1
 have HL:Aside ((fX cuts (bR kids)++[(4,e.1,e.2),(5,e.2,b.2)]).length+1=L):=hL
 have HN:Aside (n≤(fX cuts (bR kids)).length):=hzmin
 have HM:Aside (min cuts.length kids.length=n):=hn
 have HLL:Aside ((fX cuts (bR kids)++[(4,e.1,e.2),(5,e.2,b.2)]).length+1<1099511627776):=hlen
 clear hsub hx0 hsub1 hL hzmin hlen hn
 have hstop:∀(u:Nat) (q:Nat) (wr:World),n≤u→Sub xs q (fX (cuts.drop u) ((bR kids).drop u)++[(4,e.1,e.2),(5,e.2,b.2)])→q+(fX (cuts.drop u) ((bR kids).drop u)++[(4,e.1,e.2),(5,e.2,b.2)]).length=i+L→
   xs[q]? =some (4,e.1,e.2)∧xs[q+1]? =some (5,e.2,b.2)∧q+2=i+L:=by
  intro u q wr hu h1 h2
  rw[Ld (by have:=HM.out;omega)]at h1 h2
  obtain⟨g1,g2⟩:=h1.head
  exact⟨g1,g2.head.1,h2⟩
 by_cases hn0:0<n
 ·obtain⟨c00,hc00⟩:∃c00,cuts[0]? =some c00:=⟨_,TP (by have:=HM.out;omega)⟩
  rw[if_pos hn0,Ur,hc00,Vg]at hte
  obtain⟨cB,cO,rfl,hcl⟩:=hcuts 0 c00 hc00
  have hcl1:=hcl.below (hab.old _ _ hJ1)
  have e0:(W.alloc (.cells #[.int .i64 1, .int .i64 (h.1:Nat), .int .i64 (h.2:Nat), .int .i64 (b.1:Nat), .int .i64 (b.2:Nat), .slice ka kids.length kcap, .slice (some ⟨cB,cO,none⟩) cuts.length ccap, .int .i64 (e.1:Nat), .int .i64 (e.2:Nat)] 31)).cell? ⟨cB,cO,none⟩=some (.int .i64 c00.1):=by
   have:=hcl1 0 _ rfl
   simpa using this
  have hnz:(0:Int)<(n:Int):=by omega
  have hcz:(0:Int)<(cuts.length:Int):=by have:=HM.out;omega
  refine callsIn_of_wp Tryz.func97 rfl trivial ?_ rfl
  simp only[Tryz.ntmps97,Vj,Ua,Uh,Wh,Wi,Vv,Vw,VO,VD,UV,UA]
  gi_wp2
  refine hRd.mono ?_
  rintro e' W2 (⟨rfl,hJ2,hK2⟩|⟨rfl,hJx⟩)
  ·have hB2:=hB1.kept hK2
   gi_wp2
   gi_loopw [35] (fun v wr=>∃u q:Nat,v= .int .i64 u∧u≤n∧J q wr∧D5 T W.heap.size #[.int .i64 1, .int .i64 (h.1:Nat), .int .i64 (h.2:Nat), .int .i64 (b.1:Nat), .int .i64 (b.2:Nat), .slice ka kids.length kcap, .slice (some ⟨cB,cO,none⟩) cuts.length ccap, .int .i64 (e.1:Nat), .int .i64 (e.2:Nat)] wr∧Go.Rg.Kept T W wr∧
    Sub xs q (fX (cuts.drop u) ((bR kids).drop u)++[(4,e.1,e.2),(5,e.2,b.2)])∧q+(fX (cuts.drop u) ((bR kids).drop u)++[(4,e.1,e.2),(5,e.2,b.2)]).length=i+L)
    (fun v _=>n - (intOf v).toNat)
   case atStart=>exact⟨0,i+1,rfl,by omega,hJ2,hB2,keep _ hK2,HS.out,by have:=HL.out;simp only[U7];omega⟩
   case round=>
    obtain⟨u,q,rfl,hu,hJu,hBu,hKu,hSu,hLu⟩:=hrel
    have HSu:Aside (Sub xs q (fX (cuts.drop u) ((bR kids).drop u)++[(4,e.1,e.2),(5,e.2,b.2)])∧q+(fX (cuts.drop u) ((bR kids).drop u)++[(4,e.1,e.2),(5,e.2,b.2)]).length=i+L):=⟨hSu,hLu⟩
    clear hSu hLu
    have c3:=hBu.cell 3 _ rfl
    have c4:=hBu.cell 4 _ rfl
    have c5:=hBu.cell 5 _ rfl
    have c6:=hBu.cell 6 _ rfl
    have c7:=hBu.cell 7 _ rfl
    have c8:=hBu.cell 8 _ rfl
    by_cases hun:u<n
    ·have hunz:(u:Int)<(n:Int):=by omega
     have huc:u<cuts.length:=by have:=HM.out;omega
     have huk:u<kids.length:=by have:=HM.out;omega
     have hucz:(u:Int)<(cuts.length:Int):=by omega
     have hukz:(u:Int)<(kids.length:Int):=by omega
     have hu0:(0:Int)≤(u:Int):=by omega
     obtain⟨cu,hcu⟩:∃cu,cuts[u]? =some cu:=⟨_,TP huc⟩
     obtain⟨qq,hqq⟩:∃qq,kids[u]? =some qq:=⟨_,TP huk⟩
     have htq:(bR kids)[u]? =some (aV qq):=by rw[wY,UC,hqq];rfl
     have hbel:=hab.old _ _ hJu
     obtain⟨cB',cO',hcc,hcl⟩:=hcuts u cu hcu
     cases hcc
     have hclu:=hcl.below hbel
     have g0:wr.cell? ⟨cB,cO+u*2,none⟩=_:=hclu 0 _ rfl
     have g1:wr.cell? ⟨cB,cO+u*2+1,none⟩=_:=hclu 1 _ rfl
     have hz:=JS hcu htq
     have hs2:=HSu.out.1
     have hl2:=HSu.out.2
     rw[hz]at hs2 hl2
     simp only[UA,Ud (aV qq)]at hs2
     obtain⟨hx3,hs3⟩:=hs2.head
     obtain⟨hs4,hs5⟩:=hs3.app
     obtain⟨fn3,tmps3,assign3,body3,hy3,hRd3⟩:=hR _ _ _ hx3 hJu
     simp only[eK,V6]at hy3
     have HS5:Aside (Sub xs (q+1+(aV qq).length) (fX (cuts.drop (u+1)) ((bR kids).drop (u+1))++[(4,e.1,e.2),(5,e.2,b.2)])):=hs5
     have HL2:Aside (q+1+(aV qq).length+(fX (cuts.drop (u+1)) ((bR kids).drop (u+1))++[(4,e.1,e.2),(5,e.2,b.2)]).length=i+L):=by
      refine Eq.trans ?_ hl2
      simp only[UA,Ud,Ua,Ug]
      omega
     obtain⟨B,o,kk,f1,t1,f2,t2,f3,t3,na,la,nb,lb,a,a',rfl,hl,hseg⟩:=hkids u qq hqq (by
      have:=IH cuts (bR kids) u huc htq
      have:=HLL.out
      simp only[Ug]at this
      omega)
     have HSEG:Aside (AA 70 (.agg #[.int .i64 kk, .int .i64 f1, .int .i64 t1, .int .i64 f2, .int .i64 t2, .slice a na la, .slice a' nb lb, .int .i64 f3, .int .i64 t3]) (aV qq) base∧Sub xs (q+1) (aV qq)):=⟨hseg,hs4⟩
     have HLA:Aside (nA base B (o+u*9) [.int .i64 kk, .int .i64 f1, .int .i64 t1, .int .i64 f2, .int .i64 t2, .slice a na la, .slice a' nb lb, .int .i64 f3, .int .i64 t3]):=hl
     clear hseg hs4 hl hs5 hl2 hs2 hs3 hz htq hcl hclu hx3 hcu hqq
     gi_wp2
     refine hRd3.mono ?_
     rintro e' W3 (⟨rfl,hJ3,hK3⟩|⟨rfl,hJx⟩)
     ·have hB3:=hBu.kept hK3
      have hl3:=HLA.out.below (hab.old _ _ hJ3)
      have b3:=hB3.cell 3 _ rfl
      have b5:=hB3.cell 5 _ rfl
      have d0:W3.cell? ⟨B,o+u*9,none⟩=_:=hl3 0 _ rfl
      have d1:=hl3 1 _ rfl
      have d2:=hl3 2 _ rfl
      have d3:=hl3 3 _ rfl
      have d4:=hl3 4 _ rfl
      have d5:=hl3 5 _ rfl
      have d6:=hl3 6 _ rfl
      have d7:=hl3 7 _ rfl
      have d8:=hl3 8 _ rfl
      have HCALL:Aside _:=HSEG.out.1 l xs (q+1) J Jx T W3 hab hR HSEG.out.2 hJ3
      clear hl3
      gi_wp2
      refine⟨trivial,(callsIn_wide.2 (callsIn_wide.1 HCALL.out)).mono ?_⟩
      rintro e' W4 (⟨rfl,hJ4,hK4⟩|⟨rfl,hJx⟩)
      ·gi_wp2
       go_roundw
       case rel=>exact⟨u+1,q+1+(aV qq).length,by push_cast;rfl,by omega,hJ4,(hB3.kept hK4),kept_trans hKu (kept_trans hK3 hK4),HS5.out,HL2.out⟩
       case measure=>simp[intOf];omega
      ·gi_wp2
       refine bodyPost_ret (results_tmp rfl _ _ _) rfl ?_
       exact .inr ⟨rfl,hJx⟩
     ·gi_wp2
      refine⟨trivial,?_⟩
      gi_wp2
      refine bodyPost_ret (results_tmp rfl _ _ _) rfl ?_
      exact .inr ⟨rfl,hJx⟩
    ·have hunz:¬(u:Int)<(n:Int):=by omega
     obtain⟨hx4,hx5,hqL⟩:=hstop u q wr (by omega) HSu.out.1 HSu.out.2
     obtain⟨fn4,tmps4,assign4,body4,hy4,hRd4⟩:=hR _ _ _ hx4 hJu
     simp only[eK,V6]at hy4
     gi_wp2
     refine hRd4.mono ?_
     rintro e' W3 (⟨rfl,hJ3,hK3⟩|⟨rfl,hJx⟩)
     ·have hB3:=hBu.kept hK3
      have d3:=hB3.cell 3 _ rfl
      have d4:=hB3.cell 4 _ rfl
      have d7:=hB3.cell 7 _ rfl
      have d8:=hB3.cell 8 _ rfl
      obtain⟨fn5,tmps5,assign5,body5,hy5,hRd5⟩:=hR _ _ _ hx5 hJ3
      simp only[eK,V6]at hy5
      gi_wp2
      refine hRd5.mono ?_
      rintro e' W4 (⟨rfl,hJ4,hK4⟩|⟨rfl,hJx⟩)
      ·gi_wp2
       refine bodyPost_ret (results_tmp rfl _ _ _) rfl ?_
       refine .inl ⟨rfl,?_,kept_trans hKu (kept_trans hK3 hK4)⟩
       rw[←hqL]
       exact hJ4
      ·gi_wp2
       refine bodyPost_ret (results_tmp rfl _ _ _) rfl ?_
       exact .inr ⟨rfl,hJx⟩
     ·gi_wp2
      refine⟨(fun f h=>by simp at h),?_⟩
      gi_wp2
      refine bodyPost_ret (results_tmp rfl _ _ _) rfl ?_
      exact .inr ⟨rfl,hJx⟩
  ·gi_wp2
   refine bodyPost_ret (results_tmp rfl _ _ _) rfl ?_
   exact .inr ⟨rfl,hJx⟩
 ·have hn1:n=0:=by omega
  have hnz:¬(0:Int)<(n:Int):=by omega
  rw[if_neg hn0]at hte
  subst hte
  refine callsIn_of_wp Tryz.func97 rfl trivial ?_ rfl
  simp only[Tryz.ntmps97,Vj,Ua,Uh,Wh,Wi,Vv,Vw,VO,VD,UV,UA]
  gi_wp2
  refine hRd.mono ?_
  rintro e' W2 (⟨rfl,hJ2,hK2⟩|⟨rfl,hJx⟩)
  ·have hB2:=hB1.kept hK2
   have c3:=hB2.cell 3 _ rfl
   have c4:=hB2.cell 4 _ rfl
   have c7:=hB2.cell 7 _ rfl
   have c8:=hB2.cell 8 _ rfl
   obtain⟨hx4,hx5,hqL⟩:=hstop 0 (i+1) W2 (by omega) HS.out (by have:=HL.out;simp only[U7];omega)
   obtain⟨fn4,tmps4,assign4,body4,hy4,hRd4⟩:=hR _ _ _ hx4 hJ2
   simp only[eK,V6]at hy4
   gi_wp2
   gi_loopw [35] (fun i wr=>i= .int .i64 0∧wr=W2) (fun _ _=>0)
   case atStart=>exact⟨rfl,rfl⟩
   case round=>
    obtain⟨rfl,rfl⟩:=hrel
    gi_wp2
    refine hRd4.mono ?_
    rintro e' W3 (⟨rfl,hJ3,hK3⟩|⟨rfl,hJx⟩)
    ·have hB3:=hB2.kept hK3
     have d3:=hB3.cell 3 _ rfl
     have d4:=hB3.cell 4 _ rfl
     have d7:=hB3.cell 7 _ rfl
     have d8:=hB3.cell 8 _ rfl
     obtain⟨fn5,tmps5,assign5,body5,hy5,hRd5⟩:=hR _ _ _ hx5 hJ3
     simp only[eK,V6]at hy5
     gi_wp2
     refine hRd5.mono ?_
     rintro e' W4 (⟨rfl,hJ4,hK4⟩|⟨rfl,hJx⟩)
     ·gi_wp2
      refine bodyPost_ret (results_tmp rfl _ _ _) rfl ?_
      refine .inl ⟨rfl,?_,keep _ (kept_trans hK2 (kept_trans hK3 hK4))⟩
      rw[←hqL]
      exact hJ4
     ·gi_wp2
      refine bodyPost_ret (results_tmp rfl _ _ _) rfl ?_
      exact .inr ⟨rfl,hJx⟩
    ·gi_wp2
     refine⟨(fun f h=>by simp at h),?_⟩
     gi_wp2
     refine bodyPost_ret (results_tmp rfl _ _ _) rfl ?_
     exact .inr ⟨rfl,hJx⟩
  ·gi_wp2
   refine bodyPost_ret (results_tmp rfl _ _ _) rfl ?_
   exact .inr ⟨rfl,hJx⟩
theorem HK (h b:Nat×Nat) (kids:List Pt) (cuts:List (Nat×Nat)) (e:Nat×Nat):aV (.mk 1 h b kids cuts e)=(0,h.1,h.2)::tL b kids cuts e:=by
 rw[aV,if_pos rfl,tL]
mutual
theorem FH (base:World):∀(p:Pt) (x:Value),PIs base p x→(aV p).length<1099511627776→AA 70 x (aV p) base
 | .mk k h b kids cuts e,x,hp,hlen=>by
  rw[PIs]at hp
  obtain⟨ka,ca,kcap,ccap,rfl,h1,h2,h3,h4⟩:=hp
  have hk:=JU base kids ka h3
  refine JR base k h b kids cuts e ka ca kcap ccap hk hlen fun k1=>?_
  subst k1
  rw[HK]at hlen
  exact HJ base h b kids cuts e ka ca kcap ccap hk h4 h1 h2 (by rw[Ua]at hlen;omega)
theorem JU (base:World):∀(l:List Pt) (a:Option Addr),sA base l a 0→HI base l a:=fun l a h j q hj hq=>by
  have:=FI base l a 0 h j q hj hq
  simpa using this
theorem FI (base:World):∀(l:List Pt) (a:Option Addr) (i:Nat),sA base l a i→∀(j:Nat) q,l[j]? =some q→(aV q).length<1099511627776→
   ∃(B o:Nat) (k f1 t1 f2 t2 f3 t3:Int) (na la nb lb:Nat) (a' b:Option Addr),a=some ⟨B,o,none⟩∧
  nA base B (o+(i+j)*9) [.int .i64 k, .int .i64 f1, .int .i64 t1, .int .i64 f2, .int .i64 t2, .slice a' na la, .slice b nb lb, .int .i64 f3, .int .i64 t3]∧
  AA 70 (.agg #[.int .i64 k, .int .i64 f1, .int .i64 t1, .int .i64 f2, .int .i64 t2, .slice a' na la, .slice b nb lb, .int .i64 f3, .int .i64 t3]) (aV q) base
 |p::r,a,i,hp,0,q,hj,hq=>by
  simp at hj;subst hj
  rw[sA]at hp
  obtain⟨⟨B,o,cs,ha,h1,h2⟩,_⟩:=hp
  have hseg:=FH base p _ h1 hq
  cases p with
  |mk k h b kids cuts e=>
   rw[PIs]at h1
   obtain⟨ka,ca,kcap,ccap,hx,_⟩:=h1
   rw[hx]at hseg
   have hcs:cs=[.int .i64 (k:Nat), .int .i64 (h.1:Nat), .int .i64 (h.2:Nat), .int .i64 (b.1:Nat), .int .i64 (b.2:Nat), .slice ka kids.length kcap, .slice ca cuts.length ccap, .int .i64 (e.1:Nat), .int .i64 (e.2:Nat)]:=by
    have:=congrArg (fun v=>match v with|Value.agg a=>a.toList|_=>[]) hx
    simpa using this
   rw[hcs]at h2
   exact⟨B,o,_,_,_,_,_,_,_,_,_,_,_,_,_,ha,h2,hseg⟩
 |p::r,a,i,hp,j+1,q,hj,hq=>by
  rw[sA]at hp
  have:=FI base r a (i+1) hp.2 j q (by simpa using hj) hq
  rw[show i+1+j=i+(j+1)by omega]at this
  exact this
end
end Go.Proofs.YtgpofjbdjiajeaaGreatDoor
end
section
namespace Go.Proofs.YtgpofjbdjiajeaaGreatDoor
open Go.RowKit Go.Shelf Go.Rg
attribute [local go_sem] Oper.semAt_some
set_option maxRecDepth 100000 in
set_option maxHeartbeats 1000000 in
theorem JV (base:World) (B:Nat) (p:Pt) (cs:Array Value) (hp:PIs base p (.agg cs)) (hlen:(aV p).length<1099511627776)
  (l:Nat) (J:Nat→World→Prop) (Jx:World→Prop) (T:World→Nat→Prop) (W:World) (hab:Go.Rg.Abides base J T) (hR:Go.Rg.Rounds Tryz.prog l eK (aV p) J Jx T) (h0:J 0 W) (hBW:W.heap[B]? =some (.cells cs 31 (0,0))):
  CallsIn Fence.wide 1 Tryz.prog 69 #[.func (.yield l) #[] #[], .pointer (some ⟨B,0,none⟩)] W fun e W' =>(∃v,e= .returned v)∧(J (aV p).length W'∨Jx W'):=by
 have hseg:=FH base p _ hp hlen l (aV p) 0 J Jx T W hab hR (fun k x hx=>by rw[UD];exact hx) h0
 cases p with
 |mk k h b kids cuts e=>
  rw[PIs]at hp
  obtain⟨ka,ca,kcap,ccap,hx,_⟩:=hp
  cases hx
  have cell:∀(j:Nat) (v:Value),(#[Value.int .i64 (k:Nat), .int .i64 (h.1:Nat), .int .i64 (h.2:Nat), .int .i64 (b.1:Nat), .int .i64 (b.2:Nat), .slice ka kids.length kcap, .slice ca cuts.length ccap, .int .i64 (e.1:Nat), .int .i64 (e.2:Nat)])[j]? =some v→W.cell? ⟨B,j,none⟩=some v:=by
   intro j v hv
   simp only[World.cell?,hBW]
   exact hv
  have c0:=cell 0 _ rfl
  have c1:=cell 1 _ rfl
  have c2:=cell 2 _ rfl
  have c3:=cell 3 _ rfl
  have c4:=cell 4 _ rfl
  have c5:=cell 5 _ rfl
  have c6:=cell 6 _ rfl
  have c7:=cell 7 _ rfl
  have c8:=cell 8 _ rfl
  generalize htl:(aV (.mk k h b kids cuts e)).length=L at*
  refine callsIn_of_wp Tryz.func69 rfl trivial ?_ rfl
  simp only[Tryz.ntmps69,Vj,Ua,Uh,Wh,Wi,Vv,Vw,VO,VD,UV,UA]
  gi_wp2
  refine⟨trivial,(callsIn_wide.2 (callsIn_wide.1 hseg)).mono ?_⟩
  rintro e' W4 (⟨rfl,hJ4,hK4⟩|⟨rfl,hJx⟩)
  ·gi_wp2
   go_end0
   refine⟨⟨_,rfl⟩, .inl ?_⟩
   rwa [UD]at hJ4
  ·gi_wp2
   go_end0
   exact⟨⟨_,rfl⟩, .inr hJx⟩
set_option maxHeartbeats 1000000 in
theorem Pj (k f1 t1 f2 t2 f3 t3:Int) (na la nb lb:Nat) (a b:Option Addr) (w:World):Calls Tryz.prog 44 #[.agg #[.int .i64 k, .int .i64 f1, .int .i64 t1, .int .i64 f2, .int .i64 t2, .slice a na la, .slice b nb lb, .int .i64 f3, .int .i64 t3]] w fun e w' =>
  e= .returned (.func (.func 69) #[] #[.pointer (some ⟨w.heap.size,0,none⟩)])∧w' =w.alloc (.cells #[.int .i64 k, .int .i64 f1, .int .i64 t1, .int .i64 f2, .int .i64 t2, .slice a na la, .slice b nb lb, .int .i64 f3, .int .i64 t3] 31):=by
 go_enter Tryz.func44,Tryz.ntmps44
 go_wp2
 go_ret
 exact⟨rfl,rfl⟩
end Go.Proofs.YtgpofjbdjiajeaaGreatDoor
end
section
namespace Go.Proofs.YtgpofjbdjiajeaaGreatDoor
open Go.RowKit Go.Shelf Go.Rg
attribute [local go_sem] Oper.semAt_some
theorem AB:∀(l:List (Nat×Nat×Nat)) (a b:Int) (x:Nat×Nat×Nat),chainT a l=some b→chainT a (l++[x])=if(x.2.1:Int)=b∧b≤(x.2.2:Int)then some ((x.2.2:Nat):Int)else none
 |[],a,b,x,h=>by simp only[chainT,Option.some.injEq]at h;subst h;rfl
 |t::r,a,b,x,h=>by
  simp only[chainT,UA]at h ⊢
  split at h
  ·rename_i hc;rw[if_pos hc];exact AB r _ b x h
  ·cases h
theorem yI:∀(l r:List (Nat×Nat×Nat)) (a:Int),chainT a l=none→chainT a (l++r)=none
 |[],r,a,h=>by simp[chainT]at h
 |t::l,r,a,h=>by
  simp only[chainT,UA]at h ⊢
  split
  ·rename_i hc;rw[if_pos hc]at h;exact yI l r _ h
  ·rfl
noncomputable def uW : Code := (Code.region 7 #[{ dst := some 6, op := Op.alloc 107, type := 0, pos := "tiles.go:96", after := #[], guard := none }, { dst := none, op := Op.store 107 (Operand.tmp 6) (Operand.tmp 27), type := 0, pos := "tiles.go:96", after := #[{ on := 0, ground := Ground.data }, { on := 0, ground := Ground.phase }], guard := none }] false)
noncomputable def D6 : Code := (Code.block 1 (((Code.region 8 #[{ dst := some 28, op := Op.fieldAddr 107 (Operand.tmp 6) 1, type := 0, pos := "tiles.go:97", after := #[], guard := none }, { dst := some 29, op := Op.fieldAddr 27 (Operand.tmp 28) 0, type := 0, pos := "tiles.go:97", after := #[{ on := 0, ground := Ground.data }], guard := none }, { dst := some 30, op := Op.load 3 (Operand.tmp 29), type := 3, pos := "tiles.go:97", after := #[{ on := 1, ground := Ground.data }], guard := none }, { dst := some 31, op := Op.load 3 (Operand.tmp 5), type := 3, pos := "tiles.go:97", after := #[], guard := none }, { dst := some 32, op := Op.binOp BinOp.neq 3 (Operand.tmp 30) (Operand.tmp 31) 3, type := 4, pos := "tiles.go:97", after := #[{ on := 2, ground := Ground.data }, { on := 3, ground := Ground.data }], guard := none }, { dst := some 33, op := Op.move (Operand.tmp 32), type := 4, pos := "tiles.go:97", after := #[{ on := 4, ground := Ground.data }], guard := none }, { dst := some 34, op := Op.fieldAddr 107 (Operand.tmp 6) 1, type := 0, pos := "tiles.go:97", after := #[{ on := 5, ground := Ground.guard }], guard := some (5, false) }, { dst := some 35, op := Op.fieldAddr 27 (Operand.tmp 34) 1, type := 0, pos := "tiles.go:97", after := #[{ on := 6, ground := Ground.data }, { on := 5, ground := Ground.guard }], guard := some (5, false) }, { dst := some 36, op := Op.load 3 (Operand.tmp 35), type := 3, pos := "tiles.go:97", after := #[{ on := 7, ground := Ground.data }, { on := 5, ground := Ground.guard }], guard := some (5, false) }, { dst := some 37, op := Op.load 3 (Operand.tmp 5), type := 3, pos := "tiles.go:97", after := #[{ on := 5, ground := Ground.guard }], guard := some (5, false) }, { dst := some 38, op := Op.binOp BinOp.lss 3 (Operand.tmp 36) (Operand.tmp 37) 3, type := 4, pos := "tiles.go:97", after := #[{ on := 8, ground := Ground.data }, { on := 9, ground := Ground.data }, { on := 5, ground := Ground.guard }], guard := some (5, false) }, { dst := some 39, op := Op.pick (Operand.tmp 33) (Operand.const (Value.bool true)) (Operand.tmp 38), type := 4, pos := "tiles.go:97", after := #[{ on := 5, ground := Ground.data }, { on := 10, ground := Ground.data }], guard := none }] false).seq (Code.cond (Operand.tmp 39) ((Code.region 9 #[{ dst := none, op := Op.store 32 (Operand.tmp 4) (Operand.const (Value.int TM 11)), type := 0, pos := "tiles.go:98", after := #[], guard := none }] false).seq Code.ret) Code.skip)).seq (Code.region 10 #[{ dst := some 40, op := Op.fieldAddr 107 (Operand.tmp 6) 1, type := 0, pos := "tiles.go:100", after := #[], guard := none }, { dst := some 41, op := Op.fieldAddr 27 (Operand.tmp 40) 1, type := 0, pos := "tiles.go:100", after := #[{ on := 0, ground := Ground.data }], guard := none }, { dst := some 42, op := Op.load 3 (Operand.tmp 41), type := 3, pos := "tiles.go:100", after := #[{ on := 1, ground := Ground.data }], guard := none }, { dst := none, op := Op.store 3 (Operand.tmp 5) (Operand.tmp 42), type := 0, pos := "tiles.go:100", after := #[{ on := 2, ground := Ground.data }, { on := 0, ground := Ground.phase }, { on := 1, ground := Ground.phase }, { on := 2, ground := Ground.phase }], guard := none }] false)))
structure lN (base:World) (rec:Loop) (R A l D:Nat) (res at_:Int) (W:World):Prop where
 res:Boxed W R 32 (.int .i64 res)
 at_:Boxed W A 3 (.int .i64 at_)
 L:W.heap[l]? =some (.loop rec)
 K:W.heap[D]? =some (.deferred (some []))
 below:Below base.heap.size base W
def JW (R A l D:Nat) (W:World) (r:Nat):Prop:=r<W.heap.size∧(r=R∨r=A∨r=l∨r=D)
theorem lN.grown {base:World} {rec:Loop} {R A l D:Nat} {res at_:Int} {W W' :World} {row:Option Nat} (h:lN base rec R A l D res at_ W) (hg:W.grownBy W' row) (hr:∀r,row=some r→base.heap.size≤r∧r≠R∧r≠A∧r≠l∧r≠D):lN base rec R A l D res at_ W' :=
 ⟨h.res.kept hg (fun e=>(hr R e.symm).2.1 rfl),h.at_.kept hg (fun e=>(hr A e.symm).2.2.1 rfl),
  (hg.block l (TX.1 h.L).1 (fun e=>(hr l e.symm).2.2.2.1 rfl)).trans h.L,(hg.block D (TX.1 h.K).1 (fun e=>(hr D e.symm).2.2.2.2 rfl)).trans h.K,
  h.below.grown hg h.below.size fun k e=>(hr k e).1⟩
set_option maxRecDepth 100000 in
set_option maxHeartbeats 2000000 in
theorem Nc (base:World) (fn:FuncId) (R A l D:Nat) (hRA:R≠A) (hRl:R≠l) (hRD:R≠D) (hAl:A≠l) (hAD:A≠D) (hlD:l≠D) (h0R:base.heap.size≤R) (h0A:base.heap.size≤A) (h0l:base.heap.size≤l)
  {u0 u1 u2 u3 u6 u7 u8 u9 u10 u11 u12 u13 u14 u15 u16 u17 u18 u19 u20 u21 u22 u23 u24 u25 u26 u27 u28 u29 u30 u31 u32 u33 u34 u35 u36 u37 u38 u39 u40 u41 u42 u43 u44 u45:Value} (rec:Loop) (hrec:rec={ state:= .ready,pending:=none,fn,tmps:=#[u0,u1,u2,u3, .pointer (some ⟨R,0,none⟩), .pointer (some ⟨A,0,none⟩),u6,u7,u8,u9,u10,u11,u12,u13,u14,u15,u16,u17,u18,u19,u20,u21,u22,u23,u24,u25,u26,u27,u28,u29,u30,u31,u32,u33,u34,u35,u36,u37,u38,u39,u40,u41,u42,u43,u44,u45],params:=#[27],assign:=uW,body:=D6,defers:=D })
  (a:Int) (x:Nat×Nat×Nat) (W:World) (h:lN base rec R A l D 0 a W):
  YieldAt Fence.wide 0 Tryz.prog l #[eK x] W fun e W' =>
   (((x.2.1:Int)=a∧a≤(x.2.2:Int))∧e= .returned (.bool true)∧lN base rec R A l D 0 (x.2.2:Nat) W'∧Go.Rg.Kept (JW R A l D) W W')∨
   (¬((x.2.1:Int)=a∧a≤(x.2.2:Int))∧e= .returned (.bool false)∧lN base { rec with state:= .done,pending:=some .ret } R A l D 11 a W'):=by
 suffices H:∀Q:Ending→World→Prop,(∀W',((x.2.1:Int)=a∧a≤(x.2.2:Int))→lN base rec R A l D 0 (x.2.2:Nat) W'→Go.Rg.Kept (JW R A l D) W W'→Q (.returned (.bool true)) W')→
   (∀W',¬((x.2.1:Int)=a∧a≤(x.2.2:Int))→lN base { rec with state:= .done,pending:=some .ret } R A l D 11 a W'→Q (.returned (.bool false)) W')→YieldAt Fence.wide 0 Tryz.prog l #[eK x] W Q from
  H _ (fun W' h1 h2 h3=> .inl ⟨h1,rfl,h2,h3⟩) (fun W' h1 h2=> .inr ⟨h1,rfl,h2⟩)
 intro Q hQ1 hQ2
 have HQ:Aside ((∀W',((x.2.1:Int)=a∧a≤(x.2.2:Int))→lN base rec R A l D 0 (x.2.2:Nat) W'→Go.Rg.Kept (JW R A l D) W W'→Q (.returned (.bool true)) W')∧
   (∀W',¬((x.2.1:Int)=a∧a≤(x.2.2:Int))→lN base { rec with state:= .done,pending:=some .ret } R A l D 11 a W'→Q (.returned (.bool false)) W')):=⟨hQ1,hQ2⟩
 clear hQ1 hQ2
 have hyl:(Instr.yield l #[eK x]).run Tryz.prog W= .ok (.round l fn #[u0,u1,u2,u3, .pointer (some ⟨R,0,none⟩), .pointer (some ⟨A,0,none⟩),u6,u7,u8,u9,u10,u11,u12,u13,u14,u15,u16,u17,u18,u19,u20,u21,u22,u23,u24,u25,u26,eK x,u28,u29,u30,u31,u32,u33,u34,u35,u36,u37,u38,u39,u40,u41,u42,u43,u44,u45] uW D6) W:=by simpa[hrec]using run_yield (P:=Tryz.prog) (args:=#[eK x]) h.L (by rw[hrec];rfl)
 have hst:rec.state= .ready:=by rw[hrec]
 have hid:({ { rec with state:= .busy } with state:=if(none:Option Code).isNone then .ready else .done,pending:=none }:Loop)=rec:=by rw[hrec];rfl
 clear hrec
 refine⟨fn,#[u0,u1,u2,u3, .pointer (some ⟨R,0,none⟩), .pointer (some ⟨A,0,none⟩),u6,u7,u8,u9,u10,u11,u12,u13,u14,u15,u16,u17,u18,u19,u20,u21,u22,u23,u24,u25,u26,eK x,u28,u29,u30,u31,u32,u33,u34,u35,u36,u37,u38,u39,u40,u41,u42,u43,u44,u45],uW,D6,hyl,roundIn_of_wpIn trivial ?_⟩
 clear hyl
 have hl:l<W.heap.size:=(TX.1 h.L).1
 unfold uW eK
 gi_wp2_with (rw[Oper.semAt_eq _ _ _ (fun c h=>by cases h)];go_simp;try go_bits)
 obtain⟨Wa,hWa⟩:∃Wa,W.alloc (.cells #[.int .i64 x.1, .int .i64 x.2.1, .int .i64 x.2.2] 107)=Wa:=⟨_,rfl⟩
 have hga:W.grownBy Wa none:=by rw[←hWa];exact World.grownBy_alloc _ _ _
 have hxa:Wa.heap[W.heap.size]? =some (.cells #[.int .i64 x.1, .int .i64 x.2.1, .int .i64 x.2.2] 107 (0,0)):=by rw[←hWa];exact World.alloc_heap_new W _
 rw[hWa]
 clear hWa
 have ha:lN base rec R A l D 0 a Wa:=h.grown hga (fun r e=>by cases e)
 have hbr:=run_beginRound (P:=Tryz.prog) ha.L hst
 obtain⟨W2,hW2⟩:∃W2,Wa.putObj l (.loop { rec with state:= .busy })=W2:=⟨_,rfl⟩
 rw[hW2]at hbr
 have hla:l<Wa.heap.size:=(TX.1 ha.L).1
 have hg2:Wa.grownBy W2 (some l):=by rw[←hW2];exact grownBy_putObj _ _ _
 have hxl:W.heap.size<Wa.heap.size:=(TX.1 hxa).1
 have hx2:W2.heap[W.heap.size]? =some (.cells #[.int .i64 x.1, .int .i64 x.2.1, .int .i64 x.2.2] 107 (0,0)):=(hg2.block _ hxl (by simp;omega)).trans hxa
 have h2:lN base { rec with state:= .busy } R A l D 0 a W2:=
  ⟨ha.res.kept hg2 (by simpa using hRl),ha.at_.kept hg2 (by simpa using hAl),by rw[←hW2];exact World.putObj_heap_same hla,
   (hg2.block D (TX.1 ha.K).1 (by simpa using hlD.symm)).trans ha.K,ha.below.grown hg2 ha.below.size (fun k e=>by cases e;exact h0l)⟩
 clear hW2
 have keep:∀(W4:World) (X:Nat) (o:Obj),W2.grownBy W4 (some X)→X=R∨X=A→∀(W5:World),W5=W4.putObj l o→Go.Rg.Kept (JW R A l D) W W5:=by
  intro W4 X o hg4 hX W5 h5
  subst h5
  have hg5:W4.grownBy (W4.putObj l o) (some l):=grownBy_putObj _ _ _
  refine⟨Uy hga.size (Uy hg2.size (Uy hg4.size hg5.size)),fun j hj hT=>?_⟩
  have hjR:j≠R:=fun e=>hT ⟨hj, .inl e⟩
  have hjA:j≠A:=fun e=>hT ⟨hj, .inr (.inl e)⟩
  have hjl:j≠l:=fun e=>hT ⟨hj, .inr (.inr (.inl e))⟩
  have hjD:j≠D:=fun e=>hT ⟨hj, .inr (.inr (.inr e))⟩
  have hjX:j≠X:=by rcases hX with rfl|rfl<;>assumption
  have s1:=Up hj hga.size
  have s2:=Up s1 hg2.size
  have s3:=Up s2 hg4.size
  refine⟨(hg5.block j s3 (by simpa using hjl)).trans ((hg4.block j s2 (by simpa using hjX)).trans ((hg2.block j s1 (by simpa using hjl)).trans (hga.block j hj (by simp)))),?_⟩
  rintro⟨_,e|e|e|e⟩
  ·exact hjR e
  ·exact hjA e
  ·exact hjl e
  ·exact hjD e
 have stop:¬((x.2.1:Int)=a∧a≤(x.2.2:Int))→∃v w',(Instr.endRound l (some .ret)).run Tryz.prog (W2.setCell ⟨R,0,none⟩ (.int .i64 11))= .ok v w'∧Q (.returned v) w' :=by
  intro hn
  have hg4:=grownBy_setCell W2 ⟨R,0,none⟩ (.int .i64 11)
  have h4:lN base { rec with state:= .busy } R A l D 11 a (W2.setCell ⟨R,0,none⟩ (.int .i64 11)):=
   ⟨h2.res.set _,h2.at_.kept hg4 (by simpa using hRA.symm),(hg4.block l (TX.1 h2.L).1 (by simpa using hRl.symm)).trans h2.L,
    (hg4.block D (TX.1 h2.K).1 (by simpa using hRD.symm)).trans h2.K,h2.below.grown hg4 h2.below.size (fun k e=>by cases e;exact h0R)⟩
  refine⟨_,_,run_endRound (some .ret) h4.L,HQ.out.2 _ hn ?_⟩
  have hg5:=grownBy_putObj (W2.setCell ⟨R,0,none⟩ (.int .i64 11)) l (.loop { { rec with state:= .busy } with state:=if(some Code.ret).isNone then .ready else .done,pending:=some .ret })
  exact⟨h4.res.kept hg5 (by simpa using hRl),h4.at_.kept hg5 (by simpa using hAl),World.putObj_heap_same (TX.1 h4.L).1,
   (World.putObj_heap_other hlD.symm).trans h4.K,h4.below.grown hg5 h4.below.size (fun k e=>by cases e;exact h0l)⟩
 have gon:((x.2.1:Int)=a∧a≤(x.2.2:Int))→∃v w',(Instr.endRound l none).run Tryz.prog (W2.setCell ⟨A,0,none⟩ (.int .i64 (x.2.2:Nat)))= .ok v w'∧Q (.returned v) w' :=by
  intro hn
  have hg4:=grownBy_setCell W2 ⟨A,0,none⟩ (.int .i64 (x.2.2:Nat))
  have h4:lN base { rec with state:= .busy } R A l D 0 (x.2.2:Nat) (W2.setCell ⟨A,0,none⟩ (.int .i64 (x.2.2:Nat))):=
   ⟨h2.res.kept hg4 (by simpa using hRA),h2.at_.set _,(hg4.block l (TX.1 h2.L).1 (by simpa using hAl.symm)).trans h2.L,
    (hg4.block D (TX.1 h2.K).1 (by simpa using hAD.symm)).trans h2.K,h2.below.grown hg4 h2.below.size (fun k e=>by cases e;exact h0A)⟩
  refine⟨_,_,run_endRound none h4.L,HQ.out.1 _ hn ?_ (keep _ A _ hg4 (.inr rfl) _ rfl)⟩
  have hg5:=grownBy_putObj (W2.setCell ⟨A,0,none⟩ (.int .i64 (x.2.2:Nat))) l (.loop { { rec with state:= .busy } with state:=if(none:Option Code).isNone then .ready else .done,pending:=none })
  rw[hid]at hg5
  rw[hid]
  exact⟨h4.res.kept hg5 (by simpa using hRl),h4.at_.kept hg5 (by simpa using hAl),World.putObj_heap_same (TX.1 h4.L).1,
   (World.putObj_heap_other hlD.symm).trans h4.K,h4.below.grown hg5 h4.below.size (fun k e=>by cases e;exact h0l)⟩
 have x0:W2.cell? ⟨W.heap.size,0,none⟩=some (.int .i64 x.1):=by simp[World.cell?,hx2]
 have x1:W2.cell? ⟨W.heap.size,1,none⟩=some (.int .i64 x.2.1):=by simp[World.cell?,hx2]
 have x2:W2.cell? ⟨W.heap.size,2,none⟩=some (.int .i64 x.2.2):=by simp[World.cell?,hx2]
 have r1:=h2.res.cell
 have r2:=h2.res.frozen
 have a1:=h2.at_.cell
 have a2:=h2.at_.frozen
 refine⟨W2,hbr,?_⟩
 clear hbr hst
 unfold D6
 have STOP:=(show Hid _ from stop)
 have GON:=(show Hid _ from gon)
 clear stop gon keep hid HQ
 by_cases c1:(x.2.1:Int)=a
 ·by_cases c2:(x.2.2:Int)<a
  ·gi_wp2
   exact STOP.out (fun h=>by omega)
  ·gi_wp2
   exact GON.out ⟨by omega,by omega⟩
 ·have c1' :((x.2.1:Int)==a)=false:=by simpa using c1
  gi_wp2
  exact STOP.out (fun h=>c1 h.1)
end Go.Proofs.YtgpofjbdjiajeaaGreatDoor
end
section
namespace Go.Proofs.YtgpofjbdjiajeaaGreatDoor
open Go.RowKit Go.Shelf Go.Rg
attribute [local go_sem] Oper.semAt_some
theorem JX (base:World) (rec:Loop) (R A l D:Nat) (f:Nat→Int→Prop):Go.Rg.Abides base (fun i W=>∃a,f i a∧lN base rec R A l D 0 a W) (JW R A l D) where
 step:=by
  rintro i W W' row ⟨a,hf,h⟩ hg hrow
  have k1:=h.res.lt
  have k2:=h.at_.lt
  have k3:=(TX.1 h.L).1
  have k4:=(TX.1 h.K).1
  refine⟨⟨a,hf,h.grown hg fun r e=>⟨(hrow r e).1,?_,?_,?_,?_⟩⟩,?_⟩
  ·intro e';subst e';exact(hrow _ e).2 ⟨k1, .inl rfl⟩
  ·intro e';subst e';exact(hrow _ e).2 ⟨k2, .inr (.inl rfl)⟩
  ·intro e';subst e';exact(hrow _ e).2 ⟨k3, .inr (.inr (.inl rfl))⟩
  ·intro e';subst e';exact(hrow _ e).2 ⟨k4, .inr (.inr (.inr rfl))⟩
  ·rintro r ⟨_,h1⟩
   refine⟨?_,h1⟩
   rcases h1 with rfl|rfl|rfl|rfl<;>assumption
 lt:=fun i W r _ ht=>ht.1
 old:=by rintro i W ⟨a,_,h⟩;exact h.below
theorem II {base:World} {rec:Loop} {R A l D:Nat} {res at_:Int} {W:World} (h:lN base rec R A l D res at_ W) (hRl:R≠l) (hAl:A≠l) (hlD:l≠D) (h0l:base.heap.size≤l) (rec' :Loop):lN base rec' R A l D res at_ (W.putObj l (.loop rec')):=by
 have hg:=grownBy_putObj W l (.loop rec')
 exact⟨h.res.kept hg (by simpa using hRl),h.at_.kept hg (by simpa using hAl),World.putObj_heap_same (TX.1 h.L).1,(World.putObj_heap_other hlD.symm).trans h.K,h.below.grown hg h.below.size (fun k e=>by cases e;exact h0l)⟩
theorem D7 {base:World} {rec:Loop} {R A l D:Nat} {res at_:Int} {W:World} (h:lN base rec R A l D res at_ W) (hRA:R≠A) (hRl:R≠l) (hRD:R≠D) (h0R:base.heap.size≤R) (res' :Int):lN base rec R A l D res' at_ (W.setCell ⟨R,0,none⟩ (.int .i64 res')):=by
 have hg:=grownBy_setCell W ⟨R,0,none⟩ (.int .i64 res')
 exact⟨h.res.set _,h.at_.kept hg (by simpa using hRA.symm),(hg.block l (TX.1 h.L).1 (by simpa using hRl.symm)).trans h.L,(hg.block D (TX.1 h.K).1 (by simpa using hRD.symm)).trans h.K,h.below.grown hg h.below.size (fun k e=>by cases e;exact h0R)⟩
theorem HO {base:World} {rec:Loop} {R A l D:Nat} {res at_:Int} {W:World} (h:lN base rec R A l D res at_ W) (hRD:R≠D) (h0D:base.heap.size≤D):
  (W.putObj D (.deferred none)).cell? ⟨R,0,none⟩=some (.int .i64 res)∧Below base.heap.size base (W.putObj D (.deferred none)):=by
 have hg:=grownBy_putObj W D (.deferred none)
 exact⟨(h.res.kept hg (by simpa using hRD)).cell,h.below.grown hg h.below.size (fun k e=>by cases e;exact h0D)⟩
def D8 (w:World) (f:Nat) (x v:Value):Prop:=∀W,Below w.heap.size w W→Calls Tryz.prog f #[x] W fun e W' =>e= .returned v∧Below W.heap.size W W'
structure D9 (w:World) (CS:Array Value) (W:World):Prop where
 bel:Below w.heap.size w W
 box:W.heap[w.heap.size]? =some (.cells CS 31 (0,0))
 res:Boxed W (w.heap.size+1) 32 (.int .i64 0)
theorem D9.first (w:World) (CS:Array Value):D9 w CS ((w.alloc (.cells CS 31)).alloc (.cells #[.int .i64 0] 32)):=
 ⟨((Below.refl _ w).alloc (TY _) _).alloc (by simp) _,(Below.heap_alloc _ _ _ (by simp)).trans (World.alloc_heap_new w _),by
  have:=World.alloc_heap_new (w.alloc (.cells CS 31)) (.cells #[.int .i64 0] 32)
  rwa [World.size_alloc]at this⟩
theorem D9.next {w:World} {CS:Array Value} {W W' :World} (h:D9 w CS W) (hb:Below W.heap.size W W'):D9 w CS W' :=by
 have h1:=(TX.1 h.box).1
 have h2:=h.res.lt
 exact⟨h.bel.trans (hb.mono h.bel.size),(hb.block _ h1).trans h.box,(hb.block _ h2).trans h.res⟩
theorem D9.cell {w:World} {CS:Array Value} {W:World} (h:D9 w CS W) (j:Nat) (v:Value) (hv:CS[j]? =some v):W.cell? ⟨w.heap.size,j,none⟩=some v:=by
 simp only[World.cell?,h.box]
 exact hv
theorem AC (tmps:Array Value) (W:World) (B:Nat) (v:Value) (hp:tmps.getD 4 undef= .pointer (some ⟨B,0,none⟩)) (hv:W.cell? ⟨B,0,none⟩=some v):(results Tryz.f16 tmps).run Tryz.prog W= .ok v W:=by
 have h:Tryz.f16.results= #[.cell 4 32]:=rfl
 have hp' :tmps[4]?.getD undef= .pointer (some ⟨B,0,none⟩):=by simpa using hp
 simp[results,h,hp',asAddr,loadVar,isAgg,Tryz.underlying32,hv,go_sem]
theorem iD {w:World} {CS:Array Value} {W:World} (h:D9 w CS W) (v:Value):(W.setCell ⟨w.heap.size+1,0,none⟩ v).cell? ⟨w.heap.size+1,0,none⟩=some v∧Below w.heap.size w (W.setCell ⟨w.heap.size+1,0,none⟩ v):=
 ⟨(h.res.set v).cell,h.bel.grown (grownBy_setCell _ _ _) h.bel.size (fun k e=>by cases e;simp)⟩
set_option maxRecDepth 100000 in
set_option maxHeartbeats 1000000 in
theorem JY (p:Pt) (x:Value) (n:Int) (w:World) (hp:PIs w p x) (hlen:(aV p).length<1099511627776) (c d a b:Int) (ft:Bool)
  (hc:D8 w 40 x (.int .i64 c)) (hd:D8 w 41 x (.int .i64 d)) (hf:D8 w 42 x (.bool ft)) (hb:D8 w 43 x (.agg #[.int .i64 a, .int .i64 b])):
  CallsIn Fence.wide 2 Tryz.prog 16 #[x, .int .i64 n] w fun e w' =>e= .returned (.int .i64 (yZ c d ft a b n (aV p)))∧Below w.heap.size w w' :=by
 have hp0:=hp
 cases p with
 |mk k h b' kids cuts e=>
  rw[PIs]at hp
  obtain⟨ka,ca,kcap,ccap,rfl,_⟩:=hp
  generalize hT:aV (.mk k h b' kids cuts e)=TT at hlen ⊢
  have s0:=D9.first w #[.int .i64 (k:Nat), .int .i64 (h.1:Nat), .int .i64 (h.2:Nat), .int .i64 (b'.1:Nat), .int .i64 (b'.2:Nat), .slice ka kids.length kcap, .slice ca cuts.length ccap, .int .i64 (e.1:Nat), .int .i64 (e.2:Nat)]
  obtain⟨err,herr⟩:∃err,yZ c d ft a b n TT=err:=⟨_,rfl⟩
  rw[herr]
  have HERR:Aside (yZ c d ft a b n TT=err):=herr
  clear herr
  refine callsIn_of_wp_marks Tryz.func16 rfl trivial ?_ rfl
  simp only[Tryz.ntmps16,Vj,Ua,Uh,Wh,Wi,Vv,Vw,VO,VD,UV,UA]
  gi_wp2
  refine⟨trivial,(callsIn_wide.2 (hc _ s0.bel)).mono ?_⟩
  rintro e1 w1 ⟨rfl,hb1⟩
  have s1:=s0.next hb1
  clear hb1 s0
  have c0:=s1.cell 0 _ rfl
  have c1:=s1.cell 1 _ rfl
  have c2:=s1.cell 2 _ rfl
  have c3:=s1.cell 3 _ rfl
  have c4:=s1.cell 4 _ rfl
  have c5:=s1.cell 5 _ rfl
  have c6:=s1.cell 6 _ rfl
  have c7:=s1.cell 7 _ rfl
  have c8:=s1.cell 8 _ rfl
  have r1:=s1.res.cell
  have r2:=s1.res.frozen
  by_cases h1:c>1000
  ·have h1' :(1000:Int)<c:=h1
   gi_wp2
   refine⟨trivial,?_⟩
   gi_wp2
   refine⟨_,AC _ _ (w.heap.size+1) _ rfl (iD s1 _).1,?_,(iD s1 _).2⟩
   rw[←HERR.out,yZ,if_pos (by omega)]
  ·have h1' :¬(1000:Int)<c:=h1
   gi_wp2
   refine⟨trivial,(callsIn_wide.2 (hd _ s1.bel)).mono ?_⟩
   rintro e2 w2 ⟨rfl,hb2⟩
   have s2:=s1.next hb2
   clear hb2 s1 c0 c1 c2 c3 c4 c5 c6 c7 c8 r1 r2
   have c0:=s2.cell 0 _ rfl
   have c1:=s2.cell 1 _ rfl
   have c2:=s2.cell 2 _ rfl
   have c3:=s2.cell 3 _ rfl
   have c4:=s2.cell 4 _ rfl
   have c5:=s2.cell 5 _ rfl
   have c6:=s2.cell 6 _ rfl
   have c7:=s2.cell 7 _ rfl
   have c8:=s2.cell 8 _ rfl
   have r1:=s2.res.cell
   have r2:=s2.res.frozen
   by_cases h2:d>32
   ·have h2' :(32:Int)<d:=h2
    gi_wp2
    refine⟨_,AC _ _ (w.heap.size+1) _ rfl (iD s2 _).1,?_,(iD s2 _).2⟩
    rw[←HERR.out,yZ,if_pos (by omega)]
   ·have h2' :¬(32:Int)<d:=h2
    gi_wp2
    refine⟨trivial,(callsIn_wide.2 (hf _ s2.bel)).mono ?_⟩
    rintro e3 w3 ⟨rfl,hb3⟩
    have s3:=s2.next hb3
    clear hb3 s2 c0 c1 c2 c3 c4 c5 c6 c7 c8 r1 r2
    have c0:=s3.cell 0 _ rfl
    have c1:=s3.cell 1 _ rfl
    have c2:=s3.cell 2 _ rfl
    have c3:=s3.cell 3 _ rfl
    have c4:=s3.cell 4 _ rfl
    have c5:=s3.cell 5 _ rfl
    have c6:=s3.cell 6 _ rfl
    have c7:=s3.cell 7 _ rfl
    have c8:=s3.cell 8 _ rfl
    have r1:=s3.res.cell
    have r2:=s3.res.frozen
    cases ft with
    |false=>
     gi_wp2
     refine⟨trivial,?_⟩
     gi_wp2
     refine⟨_,AC _ _ (w.heap.size+1) _ rfl (iD s3 _).1,?_,(iD s3 _).2⟩
     rw[←HERR.out,yZ,if_neg (by omega),if_pos (.inl rfl)]
    |true=>
     gi_wp2
     refine⟨trivial,(callsIn_wide.2 (hb _ s3.bel)).mono ?_⟩
     rintro e4 w4 ⟨rfl,hb4⟩
     have s4:=s3.next hb4
     clear hb4 s3 c0 c1 c2 c3 c4 c5 c6 c7 c8 r1 r2
     have c0:=s4.cell 0 _ rfl
     have c1:=s4.cell 1 _ rfl
     have c2:=s4.cell 2 _ rfl
     have c3:=s4.cell 3 _ rfl
     have c4:=s4.cell 4 _ rfl
     have c5:=s4.cell 5 _ rfl
     have c6:=s4.cell 6 _ rfl
     have c7:=s4.cell 7 _ rfl
     have c8:=s4.cell 8 _ rfl
     have r1:=s4.res.cell
     have r2:=s4.res.frozen
     by_cases hab:a=0∧b=n
     ·have he:err=(if chainT 0 TT=some n then 0 else 11):=by rw[←HERR.out,yZ,if_neg (by omega),if_neg (by simp[hab])]
      have HE:Aside (err=(if chainT 0 TT=some n then 0 else 11)):=he
      obtain⟨rfl,rfl⟩:=hab
      have s5:=s4.next (((Below.refl _ w4).alloc (TY _) (.cells #[.int .i64 0] 3)))
      have hA:Boxed (w4.alloc (.cells #[.int .i64 0] 3)) w4.heap.size 3 (.int .i64 0):=World.alloc_heap_new w4 _
      clear HERR he s4 c0 c1 c2 c3 c4 c5 c6 c7 c8 r1 r2
      have c0:=s5.cell 0 _ rfl
      have c1:=s5.cell 1 _ rfl
      have c2:=s5.cell 2 _ rfl
      have c3:=s5.cell 3 _ rfl
      have c4:=s5.cell 4 _ rfl
      have c5:=s5.cell 5 _ rfl
      have c6:=s5.cell 6 _ rfl
      have c7:=s5.cell 7 _ rfl
      have c8:=s5.cell 8 _ rfl
      have r1:=s5.res.cell
      have r2:=s5.res.frozen
      gi_wp2
      refine⟨trivial,(callsIn_wide.2 (Pj _ _ _ _ _ _ _ _ _ _ _ _ _ _)).mono ?_⟩
      rintro e5 w5 ⟨rfl,hw5⟩
      rw[hw5]
      clear hw5
      obtain⟨W0,hW0⟩:∃W0,(w4.alloc (.cells #[.int .i64 0] 3)).alloc (.cells #[.int .i64 (k:Nat), .int .i64 (h.1:Nat), .int .i64 (h.2:Nat), .int .i64 (b'.1:Nat), .int .i64 (b'.2:Nat), .slice ka kids.length kcap, .slice ca cuts.length ccap, .int .i64 (e.1:Nat), .int .i64 (e.2:Nat)] 31)=W0:=⟨_,rfl⟩
      have hz0:W0.heap.size=w4.heap.size+2:=by rw[←hW0];simp
      have hb0:Below (w4.alloc (.cells #[.int .i64 0] 3)).heap.size (w4.alloc (.cells #[.int .i64 0] 3)) W0:=by rw[←hW0];exact(Below.refl _ _).alloc (TY _) _
      have s6:=s5.next hb0
      have hA0:Boxed W0 w4.heap.size 3 (.int .i64 0):=(hb0.block _ (by simp)).trans hA
      have hBx:W0.heap[w4.heap.size+1]? =some (.cells #[.int .i64 (k:Nat), .int .i64 (h.1:Nat), .int .i64 (h.2:Nat), .int .i64 (b'.1:Nat), .int .i64 (b'.2:Nat), .slice ka kids.length kcap, .slice ca cuts.length ccap, .int .i64 (e.1:Nat), .int .i64 (e.2:Nat)] 31 (0,0)):=by
       rw[←hW0]
       have:=World.alloc_heap_new (w4.alloc (.cells #[.int .i64 0] 3)) (.cells #[.int .i64 (k:Nat), .int .i64 (h.1:Nat), .int .i64 (h.2:Nat), .int .i64 (b'.1:Nat), .int .i64 (b'.2:Nat), .slice ka kids.length kcap, .slice ca cuts.length ccap, .int .i64 (e.1:Nat), .int .i64 (e.2:Nat)] 31)
       rwa [World.size_alloc]at this
      have hw4:w.heap.size+1<w4.heap.size:=by
       have:=s5.res.lt;simp at this;rcases VM (w.heap.size+1) w4.heap.size with h|h;exact h;exfalso;have h2:w4.heap.size=w.heap.size+1:=by omega
       have h3:=hA;rw[h2]at h3;have:=h3.symm.trans s5.res;cases this
      gi_wp2
      try rw[hW0]
      clear c0 c1 c2 c3 c4 c5 c6 c7 c8 r1 r2 s5 hA hb0 hW0
      refine wV rfl (by decide) (gf:=69) (lb:=#[.pointer (some ⟨w4.heap.size+1,0,none⟩)]) rfl trivial (enters_of Tryz.func69 (by kernel_rfl) rfl) ?_
      intro fn rec W1 hrec hW1
      have hl1:W1.heap[W0.heap.size+1]? =some (.loop rec):=by
       rw[hW1]
       have:=World.alloc_heap_new (W0.alloc (.deferred (some []))) (.loop rec)
       rwa [World.size_alloc]at this
      have hk1:W1.heap[W0.heap.size]? =some (.deferred (some [])):=by
       rw[hW1]
       exact(Below.heap_alloc _ _ _ (by simp)).trans (World.alloc_heap_new W0 _)
      have hb1:Below W0.heap.size W0 W1:=by rw[hW1];exact((Below.refl _ W0).alloc (TY _) _).alloc (by simp) _
      have s7:=s6.next hb1
      have hA1:Boxed W1 w4.heap.size 3 (.int .i64 0):=(hb1.block _ (by omega)).trans hA0
      have hBx1:=(hb1.block _ (by omega)).trans hBx
      have hDl:W0.heap.size<W1.heap.size:=(TX.1 hk1).1
      have n1:w.heap.size+1≠w4.heap.size:=by omega
      have n2:w.heap.size+1≠W0.heap.size+1:=by omega
      have n3:w.heap.size+1≠W0.heap.size:=by omega
      have n4:w4.heap.size≠W0.heap.size+1:=by omega
      have n5:w4.heap.size≠W0.heap.size:=by omega
      have n6:W0.heap.size+1≠W0.heap.size:=by omega
      have m1:w.heap.size≤w.heap.size+1:=by omega
      have m2:w.heap.size≤w4.heap.size:=by omega
      have m3:w.heap.size≤W0.heap.size+1:=by omega
      have m4:w.heap.size≤W0.heap.size:=by omega
      have hI0:lN w rec (w.heap.size+1) w4.heap.size (W0.heap.size+1) W0.heap.size 0 0 W1:=⟨s7.res,hA1,hl1,hk1,s7.bel⟩
      clear hW1 hb1 s6 hA0 hBx hk1 hl1 hA1 s7 hDl hz0 hw4 hc hd hf hb
      have hrs:rec.state= .ready:=by rw[hrec]
      have hrp:rec.pending=none:=by rw[hrec]
      have hround:=fun a' x' W' h' =>Nc w fn (w.heap.size+1) w4.heap.size (W0.heap.size+1) W0.heap.size n1 n2 n3 n4 n5 n6 m1 m2 m3 rec hrec a' x' W' h'
      clear hrec
      subst hT
      refine(JV w (w4.heap.size+1) (.mk k h b' kids cuts e) _ hp0 hlen (W0.heap.size+1)
       (fun i W=>∃at_,chainT 0 ((aV (.mk k h b' kids cuts e)).take i)=some at_∧lN w rec (w.heap.size+1) w4.heap.size (W0.heap.size+1) W0.heap.size 0 at_ W)
       (fun W=>chainT 0 (aV (.mk k h b' kids cuts e))=none∧∃at_,lN w { rec with state:= .done,pending:=some .ret } (w.heap.size+1) w4.heap.size (W0.heap.size+1) W0.heap.size 11 at_ W)
       (JW (w.heap.size+1) w4.heap.size (W0.heap.size+1) W0.heap.size) W1 (JX w rec _ _ _ _ (fun i at_=>chainT 0 ((aV (.mk k h b' kids cuts e)).take i)=some at_)) ?_ ⟨0,rfl,hI0⟩ hBx1).mono ?_
      ·rintro i x W hx ⟨at_,hch,hI⟩
       obtain⟨fn',tmps',as',bd',hy,hR⟩:=hround at_ x W hI
       refine⟨fn',tmps',as',bd',hy,hR.mono ?_⟩
       have hstep:=AB _ _ _ x hch
       have htk:(aV (.mk k h b' kids cuts e)).take (i+1)=(aV (.mk k h b' kids cuts e)).take i++[x]:=by rw[VE,hx];rfl
       rintro e' W' (⟨hcnd,rfl,hI',hk'⟩|⟨hcnd,rfl,hI'⟩)
       ·rw[if_pos hcnd]at hstep
        exact .inl ⟨rfl,⟨_,by rw[htk];exact hstep,hI'⟩,hk'⟩
       ·rw[if_neg hcnd]at hstep
        refine .inr ⟨rfl,?_,_,hI'⟩
        rw[←U9 (i+1) (aV (.mk k h b' kids cuts e)),htk]
        exact yI _ _ _ hstep
      generalize aV (.mk k h b' kids cuts e)=TT at HE
      clear hround hI0 hBx1 hp0 hlen
      rintro e' W2 ⟨⟨v0,rfl⟩,⟨at_,hch,hI⟩|⟨hch,at_,hI⟩⟩
      ·rw[Wj]at hch
       have hend:=run_endLoop (P:=Tryz.prog) hI.L (by rw[hrs];simp)
       rw[hrp]at hend
       have hI3:=II hI n2 n4 n6 m3 { rec with state:= .exhausted }
       rw[hrp]at hI3
       obtain⟨W3,hW3⟩:∃W3,W2.putObj (W0.heap.size+1) (.loop { rec with state:= .exhausted })=W3:=⟨_,rfl⟩
       rw[hrp]at hW3
       rw[hW3]at hend hI3
       clear hW3 hI
       refine⟨none,W3,hend,?_⟩
       have r1:=hI3.res.cell
       have r2:=hI3.res.frozen
       have a1:=hI3.at_.cell
       have hE0:at_=b→err=0:=fun e=>by rw[HE.out,if_pos (by rw[hch,e])]
       have hE1:¬at_=b→err=11:=fun e=>by rw[HE.out,if_neg (by rw[hch];simpa using e)]
       have HE0:=(show Hid _ from hE0)
       have HE1:=(show Hid _ from hE1)
       clear hE0 hE1 hch HE hend hrs hrp
       by_cases hab:at_=b
       ·gi_wp2
        obtain⟨q1,q2⟩:=HO (D7 hI3 n1 n2 n3 m1 0) n3 m4
        refine⟨by simp, .inl ⟨_,_,rfl,run_takeDeferred (D7 hI3 n1 n2 n3 m1 0).K,?_⟩⟩
        exact⟨_,AC _ _ (w.heap.size+1) _ rfl q1,by rw[HE0.out hab],q2⟩
       ·have hab' :(at_==b)=false:=by simpa using hab
        gi_wp2
        obtain⟨q1,q2⟩:=HO (D7 hI3 n1 n2 n3 m1 11) n3 m4
        refine⟨by simp, .inl ⟨_,_,rfl,run_takeDeferred (D7 hI3 n1 n2 n3 m1 11).K,?_⟩⟩
        exact⟨_,AC _ _ (w.heap.size+1) _ rfl q1,by rw[HE1.out hab],q2⟩
      ·have hend:=run_endLoop (P:=Tryz.prog) hI.L (by simp)
       have hI3:=II hI n2 n4 n6 m3 { { rec with state:= .done,pending:=some .ret } with state:= .exhausted }
       obtain⟨W3,hW3⟩:∃W3,W2.putObj (W0.heap.size+1) (.loop { { rec with state:= .done,pending:=some .ret } with state:= .exhausted })=W3:=⟨_,rfl⟩
       rw[hW3]at hend hI3
       clear hW3 hI
       refine⟨some .ret,W3,hend,?_⟩
       have hE1:err=11:=by rw[HE.out,if_neg (by rw[hch];simp)]
       have HE1:=(show Hid _ from hE1)
       clear hE1 hch HE hend hrs hrp
       gi_wp2
       obtain⟨q1,q2⟩:=HO hI3 n3 m4
       refine⟨by simp, .inl ⟨_,_,rfl,run_takeDeferred hI3.K,?_⟩⟩
       exact⟨_,AC _ _ (w.heap.size+1) _ rfl q1,by rw[HE1.out],q2⟩
     ·have he:11=err:=by rw[←HERR.out,yZ,if_neg (by omega),if_pos (.inr hab)]
      have HE:Aside (11=err):=he
      clear HERR he
      gi_wp2
      all_goals
       refine⟨_,AC _ _ (w.heap.size+1) _ rfl (iD s4 _).1,?_,(iD s4 _).2⟩
       rw[←HE.out]
end Go.Proofs.YtgpofjbdjiajeaaGreatDoor
end
section
namespace Go.Proofs.YtgpofjbdjiajeaaGreatDoor
open Go.RowKit Go.Extern.Stop Go.Stop Go.Extern
def jO:Value:= .iface 196 (.agg #[.pointer (some ⟨4,66,none⟩)])
theorem sO (h : Value) (w : World) : (Go.method 359 196 (.agg #[h]) "Kind").run Tryz.prog w = .ok (150, h) w := by kernel_rfl
theorem sP (h : Value) (w : World) : (Go.method 359 196 (.agg #[h]) "Elem").run Tryz.prog w = .ok (163, .agg #[h]) w := by kernel_rfl
theorem kM (h : Value) (w : World) : (Go.method 359 196 (.agg #[h]) "Implements").run Tryz.prog w = .ok (164, .agg #[h]) w := by kernel_rfl
theorem iV (h : Value) (w : World) : (Go.method 359 196 (.agg #[h]) "AssignableTo").run Tryz.prog w = .ok (161, .agg #[h]) w := by kernel_rfl
theorem rlm (z:Sem Value) (f:TypeId→Addr→Nat→Nat→Sem Value) (v:Value):
  ReflectliteValue.method z f #[v]=(do match ←ReflectliteValue.parts v with|none=>z|some (t,a,fl)=>f t a fl (fl % 32)):=rfl
theorem rls (v x:Value):ReflectliteValue.set #[v,x]=(do
  let(some (dst,a,fl),some (src,b,_)):=(←ReflectliteValue.parts v,←ReflectliteValue.parts x)
   | unsupported (.noEntry "extern/(internal/reflectlite.Value).Set.zeroValue")
  if fl / ReflectliteValue.flagAddr % 2 == 0 then unsupported (.noEntry "extern/(internal/reflectlite.Value).Set.unaddressable")
  let val ←loadVar src b
  if ←Rtype.directlyAssignable dst src then storeVar dst a val
  else if ←Rtype.implements dst src then
   if(←Rtype.kind src)==20 then
    match val with
    | .nilIface => unsupported (.noEntry "extern/reflectlite: a nil value of one interface type handed on as a value of another")
    |_=>storeVar dst a val
   else storeVar dst a (.iface src val)
  else panicString ("reflectlite.Set: value of type " ++ (← Rtype.spelt src) ++ " is not assignable to type " ++ (← Rtype.spelt dst))
  pure (.tuple #[])):=rfl
theorem FK (t:Addr) (w:World):(ReflectliteValue.unpack (.iface 115 (.pointer (some t)))).run Tryz.prog w
  = .ok (.agg #[.pointer (some ⟨4,115,none⟩), .pointer (some ⟨w.heap.size,0,none⟩), .int .u64 150]) (w.alloc (.cells #[.pointer (some t)] 115)):=by kernel_rfl
theorem Le (a : Addr) (w : World) : (ReflectliteValue.methodAny (ReflectliteValue.valueError "reflectlite.Value.Type" 0) (fun t _ _ _ => ReflectliteType.toType t) #[.agg #[.pointer (some ⟨4, 115, none⟩), .pointer (some a), .int .u64 150]]).run Tryz.prog w
  = .ok (.iface 196 (.agg #[.pointer (some ⟨4,115,none⟩)])) w:=by kernel_rfl
theorem Lf (w:World):((ReflectliteType.abiMethod fun t=>(fun a:Nat=>Value.int UT (a:Int)) <$> Rtype.kind t) #[.pointer (some ⟨4,115,none⟩)]).run Tryz.prog w= .ok (.int .u8 22) w:=by kernel_rfl
theorem Lg (w:World):((ReflectliteType.abiMethod fun t=>(fun a:Nat=>Value.int UT (a:Int)) <$> Rtype.kind t) #[.pointer (some ⟨4,110,none⟩)]).run Tryz.prog w= .ok (.int .u8 22) w:=by kernel_rfl
theorem Cs (a:Addr) (w:World):(ReflectliteValue.parts (.agg #[.pointer (some ⟨4,115,none⟩), .pointer (some a), .int .u64 150])).run Tryz.prog w= .ok (some (115,a,150)) w:=by kernel_rfl
theorem JZ (a p:Addr) (W:World) (ha:W.cell? a=some (.pointer (some p))):
  (ReflectliteValue.method (ReflectliteValue.valueError "reflectlite.Value.IsNil" 0) ReflectliteValue.isNil #[.agg #[.pointer (some ⟨4, 115, none⟩), .pointer (some a), .int .u64 150]]).run Tryz.prog W = .ok (.bool false) W := by
 rw[rlm]
 simp only[Sem.run_bind,Cs,Result.andThen]
 simp[ReflectliteValue.isNil,loadVar,isAgg,underlying,Tryz.underlying115,ha,Result.andThen]
theorem Lh (w:World):(ReflectliteType.method ReflectliteType.elem #[.agg #[.pointer (some ⟨4,115,none⟩)]]).run Tryz.prog w= .ok (.iface 196 (.agg #[.pointer (some ⟨4,110,none⟩)])) w:=by kernel_rfl
theorem AD (w : World) : (ReflectliteType.relation "Implements" ReflectliteType.implements_ #[.agg #[.pointer (some ⟨4, 110, none⟩)], .iface 196 (.agg #[.pointer (some ⟨4, 66, none⟩)])]).run Tryz.prog w = .ok (.bool true) w := by kernel_rfl
theorem HT (v:Value) (w:World):(ReflectliteType.typeOf #[.iface 110 v]).run Tryz.prog w= .ok (.iface 196 (.agg #[.pointer (some ⟨4,110,none⟩)])) w:=by kernel_rfl
theorem AE (w : World) : (ReflectliteType.relation "AssignableTo" ReflectliteType.assignableTo #[.agg #[.pointer (some ⟨4, 110, none⟩)], .iface 196 (.agg #[.pointer (some ⟨4, 110, none⟩)])]).run Tryz.prog w = .ok (.bool true) w := by kernel_rfl
theorem FM (e:Addr) (w:World):(ReflectliteValue.unpack (.iface 110 (.pointer (some e)))).run Tryz.prog w
  = .ok (.agg #[.pointer (some ⟨4,110,none⟩), .pointer (some ⟨w.heap.size,0,none⟩), .int .u64 150]) (w.alloc (.cells #[(.pointer (some e))] 110)):=by kernel_rfl
theorem HU (w:World):(Rtype.elem? 115).run Tryz.prog w= .ok (some 110) w:=by kernel_rfl
theorem Pk (p:Addr) (w:World):(ReflectliteValue.mk 110 p ReflectliteValue.flagAddr).run Tryz.prog w= .ok (.agg #[.pointer (some ⟨4,110,none⟩), .pointer (some p), .int .u64 406]) w:=by kernel_rfl
theorem J0 (a p:Addr) (W:World) (ha:W.cell? a=some (.pointer (some p))):
  (ReflectliteValue.method (ReflectliteValue.valueError "reflectlite.Value.Elem" 0) ReflectliteValue.elem #[.agg #[.pointer (some ⟨4, 115, none⟩), .pointer (some a), .int .u64 150]]).run Tryz.prog W
   = .ok (.agg #[.pointer (some ⟨4,110,none⟩), .pointer (some p), .int .u64 406]) W:=by
 rw[rlm]
 simp only[Sem.run_bind,Cs,Result.andThen]
 simp[ReflectliteValue.elem,loadVar,isAgg,underlying,Tryz.underlying115,ha,Result.andThen,HU,Pk]
theorem HV (a:Addr) (w:World):(ReflectliteValue.parts (.agg #[.pointer (some ⟨4,110,none⟩), .pointer (some a), .int .u64 406])).run Tryz.prog w= .ok (some (110,a,406)) w:=by kernel_rfl
theorem J1 (a:Addr) (w:World):(ReflectliteValue.parts (.agg #[.pointer (some ⟨4,110,none⟩), .pointer (some a), .int .u64 150])).run Tryz.prog w= .ok (some (110,a,150)) w:=by kernel_rfl
theorem HW (w:World):(Rtype.directlyAssignable 110 110).run Tryz.prog w= .ok true w:=by kernel_rfl
theorem Nf (ta b:Addr) (e:Addr) (old:Value) (W:World) (hb:W.cell? b=some (.pointer (some e))) (ht:W.cell? ta=some old) (hf:W.frozen? ta=false):
  (ReflectliteValue.set #[.agg #[.pointer (some ⟨4,110,none⟩), .pointer (some ta), .int .u64 406], .agg #[.pointer (some ⟨4,110,none⟩), .pointer (some b), .int .u64 150]]).run Tryz.prog W
   = .ok (.tuple #[]) (W.setCell ta (.pointer (some e))):=by
 rw[rls]
 simp only[Sem.run_bind,HV,J1,Result.andThen]
 simp[ReflectliteValue.flagAddr,loadVar,isAgg,underlying,Tryz.underlying110,hb,Result.andThen,HW,storeVar,Value.cells,storeCells,Addr.add]
 rw[run_store Tryz.prog W ta _ _ (by rfl)]
 simp[ht,hf]
set_option maxHeartbeats 4000000 in
theorem Pl (e:Addr) (t:Addr) (old:Value) (w:World) (hg:w.cell? ⟨0,0,none⟩=some (.iface 196 (.agg #[.pointer (some ⟨4,66,none⟩)]))) (ht0:w.cell? t=some old) (hf0:w.frozen? t=false):
  Calls Tryz.prog 48 #[.iface 110 (.pointer (some e)), .iface 115 (.pointer (some t))] w fun ev w' =>ev= .returned (.bool true)∧w' =((((w.alloc (.cells #[.pointer (some t)] 115)).alloc (.cells #[.pointer (some ⟨4,115,none⟩), .pointer (some ⟨w.heap.size,0,none⟩), .int .u64 150] 156)).alloc (.cells #[.pointer (some ⟨4,115,none⟩), .pointer (some ⟨w.heap.size,0,none⟩), .int .u64 150] 156)).alloc (.cells #[(.pointer (some e))] 110)).setCell t (.pointer (some e)):=by
 have h6:= @run_callFunc_extern Tryz.prog 72 _ (fun args=>ReflectliteValue.unpack (args.getD 0 (.tuple #[]))) Tryz.func72 (by kernel_rfl) (by kernel_rfl) (by kernel_rfl) (by kernel_rfl)
 have h7 := @run_callFunc_extern Tryz.prog 73 _ (ReflectliteValue.methodAny (ReflectliteValue.valueError "reflectlite.Value.Type" 0) (fun t _ _ _ => ReflectliteType.toType t)) Tryz.func73 (by kernel_rfl) (by kernel_rfl) (by kernel_rfl) (by kernel_rfl)
 have h8 := @run_callFunc_extern Tryz.prog 74 _ (ReflectliteValue.method (ReflectliteValue.valueError "reflectlite.Value.IsNil" 0) ReflectliteValue.isNil) Tryz.func74 (by kernel_rfl) (by kernel_rfl) (by kernel_rfl) (by kernel_rfl)
 have h27:= @run_callFunc_extern Tryz.prog 150 _ (ReflectliteType.abiMethod fun t=>do pure (.int .u8 (←Rtype.kind t))) Tryz.func150 (by kernel_rfl) (by kernel_rfl) (by kernel_rfl) (by kernel_rfl)
 have h37:= @run_callFunc_extern Tryz.prog 163 _ (ReflectliteType.method ReflectliteType.elem) Tryz.func163 (by kernel_rfl) (by kernel_rfl) (by kernel_rfl) (by kernel_rfl)
 have h38 := @run_callFunc_extern Tryz.prog 164 _ (ReflectliteType.relation "Implements" ReflectliteType.implements_) Tryz.func164 (by kernel_rfl) (by kernel_rfl) (by kernel_rfl) (by kernel_rfl)
 have h10:= @run_callFunc_extern Tryz.prog 99 _ ReflectliteType.typeOf Tryz.func99 (by kernel_rfl) (by kernel_rfl) (by kernel_rfl) (by kernel_rfl)
 have h35 := @run_callFunc_extern Tryz.prog 161 _ (ReflectliteType.relation "AssignableTo" ReflectliteType.assignableTo) Tryz.func161 (by kernel_rfl) (by kernel_rfl) (by kernel_rfl) (by kernel_rfl)
 have h11 := @run_callFunc_extern Tryz.prog 100 _ (ReflectliteValue.method (ReflectliteValue.valueError "reflectlite.Value.Elem" 0) ReflectliteValue.elem) Tryz.func100 (by kernel_rfl) (by kernel_rfl) (by kernel_rfl) (by kernel_rfl)
 have h12:= @run_callFunc_extern Tryz.prog 101 _ ReflectliteValue.set Tryz.func101 (by kernel_rfl) (by kernel_rfl) (by kernel_rfl) (by kernel_rfl)
 have tO:=HT
 have mA:=iV
 have a25:=AE
 have v25:=FM
 have f6:=FK
 have f7:=Le
 have mK:=sO
 have mE:=sP
 have mI:=kM
 have k27:=Lf
 have k25:=Lg
 have e27:=Lh
 have i25:=AD
 have n8:=JZ ⟨w.heap.size,0,none⟩ t ((w.alloc (.cells #[.pointer (some t)] 115)).alloc (.cells #[.pointer (some ⟨4,115,none⟩), .pointer (some ⟨w.heap.size,0,none⟩), .int .u64 150] 156)) (by simp)
 have hlt:0<w.heap.size:=by
  rcases VM 0 w.heap.size with h|h
  ·exact h
  ·simp[World.cell?,Vk h]at hg
 have hg2:((w.alloc (.cells #[.pointer (some t)] 115)).alloc (.cells #[.pointer (some ⟨4,115,none⟩), .pointer (some ⟨w.heap.size,0,none⟩), .int .u64 150] 156)).cell? ⟨0,0,none⟩=some (.iface 196 (.agg #[.pointer (some ⟨4,66,none⟩)])):=by
  rw[World.cell?_alloc_lt _ _ ⟨0,0,none⟩ (by first|(simp;done)|(simp;omega)),World.cell?_alloc_lt _ _ ⟨0,0,none⟩ hlt];exact hg
 have htl:t.block<w.heap.size:=by
  rcases VM t.block w.heap.size with h|h
  ·exact h
  ·simp[World.cell?,Vk h]at ht0
 have el:=J0 ⟨w.heap.size,0,none⟩ t (((w.alloc (.cells #[.pointer (some t)] 115)).alloc (.cells #[.pointer (some ⟨4,115,none⟩), .pointer (some ⟨w.heap.size,0,none⟩), .int .u64 150] 156)).alloc (.cells #[.pointer (some ⟨4,115,none⟩), .pointer (some ⟨w.heap.size,0,none⟩), .int .u64 150] 156)) (by rw[World.cell?_alloc_lt _ _ ⟨w.heap.size,0,none⟩ (by simp;omega)];simp)
 have st:=Nf t ⟨w.heap.size+1+1+1,0,none⟩ e old ((((w.alloc (.cells #[.pointer (some t)] 115)).alloc (.cells #[.pointer (some ⟨4,115,none⟩), .pointer (some ⟨w.heap.size,0,none⟩), .int .u64 150] 156)).alloc (.cells #[.pointer (some ⟨4,115,none⟩), .pointer (some ⟨w.heap.size,0,none⟩), .int .u64 150] 156)).alloc (.cells #[(.pointer (some e))] 110))
  (by rw[World.cell?_alloc_at _ _ _ _ (by simp)];rfl)
  (by rw[World.cell?_alloc_lt _ _ t (by simp;omega),World.cell?_alloc_lt _ _ t (by simp;omega),World.cell?_alloc_lt _ _ t (by simp;omega),World.cell?_alloc_lt _ _ t htl];exact ht0)
  (by rw[World.frozen?_alloc_old _ _ t (by simp;omega),World.frozen?_alloc_old _ _ t (by simp;omega),World.frozen?_alloc_old _ _ t (by simp;omega),World.frozen?_alloc_old _ _ t (Nat.ne_of_lt htl)];exact hf0)
 go_enter Tryz.func48,Tryz.ntmps48
 go_wp2
 refine wp_loop_rounds 1 ?_
 rw[rounds_succ]
 go_wp2
 go_ret
 exact⟨rfl,rfl⟩
theorem FN (t:Addr) (w:World):(ReflectliteValue.unpack (.iface 116 (.pointer (some t)))).run Tryz.prog w
  = .ok (.agg #[.pointer (some ⟨4,116,none⟩), .pointer (some ⟨w.heap.size,0,none⟩), .int .u64 150]) (w.alloc (.cells #[.pointer (some t)] 116)):=by kernel_rfl
theorem Li (a : Addr) (w : World) : (ReflectliteValue.methodAny (ReflectliteValue.valueError "reflectlite.Value.Type" 0) (fun t _ _ _ => ReflectliteType.toType t) #[.agg #[.pointer (some ⟨4, 116, none⟩), .pointer (some a), .int .u64 150]]).run Tryz.prog w
  = .ok (.iface 196 (.agg #[.pointer (some ⟨4,116,none⟩)])) w:=by kernel_rfl
theorem Lj (w:World):((ReflectliteType.abiMethod fun t=>(fun a:Nat=>Value.int UT (a:Int)) <$> Rtype.kind t) #[.pointer (some ⟨4,116,none⟩)]).run Tryz.prog w= .ok (.int .u8 22) w:=by kernel_rfl
theorem Lk (w:World):((ReflectliteType.abiMethod fun t=>(fun a:Nat=>Value.int UT (a:Int)) <$> Rtype.kind t) #[.pointer (some ⟨4,32,none⟩)]).run Tryz.prog w= .ok (.int .u8 2) w:=by kernel_rfl
theorem Ct (a:Addr) (w:World):(ReflectliteValue.parts (.agg #[.pointer (some ⟨4,116,none⟩), .pointer (some a), .int .u64 150])).run Tryz.prog w= .ok (some (116,a,150)) w:=by kernel_rfl
theorem J2 (a p:Addr) (W:World) (ha:W.cell? a=some (.pointer (some p))):
  (ReflectliteValue.method (ReflectliteValue.valueError "reflectlite.Value.IsNil" 0) ReflectliteValue.isNil #[.agg #[.pointer (some ⟨4, 116, none⟩), .pointer (some a), .int .u64 150]]).run Tryz.prog W = .ok (.bool false) W := by
 rw[rlm]
 simp only[Sem.run_bind,Ct,Result.andThen]
 simp[ReflectliteValue.isNil,loadVar,isAgg,underlying,Tryz.underlying116,ha,Result.andThen]
theorem Ll (w:World):(ReflectliteType.method ReflectliteType.elem #[.agg #[.pointer (some ⟨4,116,none⟩)]]).run Tryz.prog w= .ok (.iface 196 (.agg #[.pointer (some ⟨4,32,none⟩)])) w:=by kernel_rfl
theorem AG (w : World) : (ReflectliteType.relation "Implements" ReflectliteType.implements_ #[.agg #[.pointer (some ⟨4, 32, none⟩)], .iface 196 (.agg #[.pointer (some ⟨4, 66, none⟩)])]).run Tryz.prog w = .ok (.bool true) w := by kernel_rfl
theorem HY (v:Value) (w:World):(ReflectliteType.typeOf #[.iface 32 v]).run Tryz.prog w= .ok (.iface 196 (.agg #[.pointer (some ⟨4,32,none⟩)])) w:=by kernel_rfl
theorem AH (w : World) : (ReflectliteType.relation "AssignableTo" ReflectliteType.assignableTo #[.agg #[.pointer (some ⟨4, 32, none⟩)], .iface 196 (.agg #[.pointer (some ⟨4, 32, none⟩)])]).run Tryz.prog w = .ok (.bool true) w := by kernel_rfl
theorem FO (n:Int) (w:World):(ReflectliteValue.unpack (.iface 32 (.int .i64 n))).run Tryz.prog w
  = .ok (.agg #[.pointer (some ⟨4,32,none⟩), .pointer (some ⟨w.heap.size,0,none⟩), .int .u64 130]) (w.alloc (.cells #[(.int .i64 n)] 32)):=by kernel_rfl
theorem HZ (w:World):(Rtype.elem? 116).run Tryz.prog w= .ok (some 32) w:=by kernel_rfl
theorem Pm (p:Addr) (w:World):(ReflectliteValue.mk 32 p ReflectliteValue.flagAddr).run Tryz.prog w= .ok (.agg #[.pointer (some ⟨4,32,none⟩), .pointer (some p), .int .u64 386]) w:=by kernel_rfl
theorem J3 (a p:Addr) (W:World) (ha:W.cell? a=some (.pointer (some p))):
  (ReflectliteValue.method (ReflectliteValue.valueError "reflectlite.Value.Elem" 0) ReflectliteValue.elem #[.agg #[.pointer (some ⟨4, 116, none⟩), .pointer (some a), .int .u64 150]]).run Tryz.prog W
   = .ok (.agg #[.pointer (some ⟨4,32,none⟩), .pointer (some p), .int .u64 386]) W:=by
 rw[rlm]
 simp only[Sem.run_bind,Ct,Result.andThen]
 simp[ReflectliteValue.elem,loadVar,isAgg,underlying,Tryz.underlying116,ha,Result.andThen,HZ,Pm]
theorem H2 (a:Addr) (w:World):(ReflectliteValue.parts (.agg #[.pointer (some ⟨4,32,none⟩), .pointer (some a), .int .u64 386])).run Tryz.prog w= .ok (some (32,a,386)) w:=by kernel_rfl
theorem J4 (a:Addr) (w:World):(ReflectliteValue.parts (.agg #[.pointer (some ⟨4,32,none⟩), .pointer (some a), .int .u64 130])).run Tryz.prog w= .ok (some (32,a,130)) w:=by kernel_rfl
theorem H3 (w:World):(Rtype.directlyAssignable 32 32).run Tryz.prog w= .ok true w:=by kernel_rfl
theorem Ng (ta b:Addr) (n:Int) (old:Value) (W:World) (hb:W.cell? b=some (.int .i64 n)) (ht:W.cell? ta=some old) (hf:W.frozen? ta=false):
  (ReflectliteValue.set #[.agg #[.pointer (some ⟨4,32,none⟩), .pointer (some ta), .int .u64 386], .agg #[.pointer (some ⟨4,32,none⟩), .pointer (some b), .int .u64 130]]).run Tryz.prog W
   = .ok (.tuple #[]) (W.setCell ta (.int .i64 n)):=by
 rw[rls]
 simp only[Sem.run_bind,H2,J4,Result.andThen]
 simp[ReflectliteValue.flagAddr,loadVar,isAgg,underlying,Tryz.underlying32,hb,Result.andThen,H3,storeVar,Value.cells,storeCells,Addr.add]
 rw[run_store Tryz.prog W ta _ _ (by rfl)]
 simp[ht,hf]
set_option maxHeartbeats 4000000 in
theorem Pn (n:Int) (t:Addr) (old:Value) (w:World) (hg:w.cell? ⟨0,0,none⟩=some (.iface 196 (.agg #[.pointer (some ⟨4,66,none⟩)]))) (ht0:w.cell? t=some old) (hf0:w.frozen? t=false):
  Calls Tryz.prog 48 #[.iface 32 (.int .i64 n), .iface 116 (.pointer (some t))] w fun ev w' =>ev= .returned (.bool true)∧w' =((((w.alloc (.cells #[.pointer (some t)] 116)).alloc (.cells #[.pointer (some ⟨4,116,none⟩), .pointer (some ⟨w.heap.size,0,none⟩), .int .u64 150] 156)).alloc (.cells #[.pointer (some ⟨4,116,none⟩), .pointer (some ⟨w.heap.size,0,none⟩), .int .u64 150] 156)).alloc (.cells #[(.int .i64 n)] 32)).setCell t (.int .i64 n):=by
 have h6:= @run_callFunc_extern Tryz.prog 72 _ (fun args=>ReflectliteValue.unpack (args.getD 0 (.tuple #[]))) Tryz.func72 (by kernel_rfl) (by kernel_rfl) (by kernel_rfl) (by kernel_rfl)
 have h7 := @run_callFunc_extern Tryz.prog 73 _ (ReflectliteValue.methodAny (ReflectliteValue.valueError "reflectlite.Value.Type" 0) (fun t _ _ _ => ReflectliteType.toType t)) Tryz.func73 (by kernel_rfl) (by kernel_rfl) (by kernel_rfl) (by kernel_rfl)
 have h8 := @run_callFunc_extern Tryz.prog 74 _ (ReflectliteValue.method (ReflectliteValue.valueError "reflectlite.Value.IsNil" 0) ReflectliteValue.isNil) Tryz.func74 (by kernel_rfl) (by kernel_rfl) (by kernel_rfl) (by kernel_rfl)
 have h27:= @run_callFunc_extern Tryz.prog 150 _ (ReflectliteType.abiMethod fun t=>do pure (.int .u8 (←Rtype.kind t))) Tryz.func150 (by kernel_rfl) (by kernel_rfl) (by kernel_rfl) (by kernel_rfl)
 have h37:= @run_callFunc_extern Tryz.prog 163 _ (ReflectliteType.method ReflectliteType.elem) Tryz.func163 (by kernel_rfl) (by kernel_rfl) (by kernel_rfl) (by kernel_rfl)
 have h38 := @run_callFunc_extern Tryz.prog 164 _ (ReflectliteType.relation "Implements" ReflectliteType.implements_) Tryz.func164 (by kernel_rfl) (by kernel_rfl) (by kernel_rfl) (by kernel_rfl)
 have h10:= @run_callFunc_extern Tryz.prog 99 _ ReflectliteType.typeOf Tryz.func99 (by kernel_rfl) (by kernel_rfl) (by kernel_rfl) (by kernel_rfl)
 have h35 := @run_callFunc_extern Tryz.prog 161 _ (ReflectliteType.relation "AssignableTo" ReflectliteType.assignableTo) Tryz.func161 (by kernel_rfl) (by kernel_rfl) (by kernel_rfl) (by kernel_rfl)
 have h11 := @run_callFunc_extern Tryz.prog 100 _ (ReflectliteValue.method (ReflectliteValue.valueError "reflectlite.Value.Elem" 0) ReflectliteValue.elem) Tryz.func100 (by kernel_rfl) (by kernel_rfl) (by kernel_rfl) (by kernel_rfl)
 have h12:= @run_callFunc_extern Tryz.prog 101 _ ReflectliteValue.set Tryz.func101 (by kernel_rfl) (by kernel_rfl) (by kernel_rfl) (by kernel_rfl)
 have tO:=HY
 have mA:=iV
 have a25:=AH
 have v25:=FO
 have f6:=FN
 have f7:=Li
 have mK:=sO
 have mE:=sP
 have mI:=kM
 have k27:=Lj
 have k25:=Lk
 have e27:=Ll
 have i25:=AG
 have n8:=J2 ⟨w.heap.size,0,none⟩ t ((w.alloc (.cells #[.pointer (some t)] 116)).alloc (.cells #[.pointer (some ⟨4,116,none⟩), .pointer (some ⟨w.heap.size,0,none⟩), .int .u64 150] 156)) (by simp)
 have hlt:0<w.heap.size:=by
  rcases VM 0 w.heap.size with h|h
  ·exact h
  ·simp[World.cell?,Vk h]at hg
 have hg2:((w.alloc (.cells #[.pointer (some t)] 116)).alloc (.cells #[.pointer (some ⟨4,116,none⟩), .pointer (some ⟨w.heap.size,0,none⟩), .int .u64 150] 156)).cell? ⟨0,0,none⟩=some (.iface 196 (.agg #[.pointer (some ⟨4,66,none⟩)])):=by
  rw[World.cell?_alloc_lt _ _ ⟨0,0,none⟩ (by first|(simp;done)|(simp;omega)),World.cell?_alloc_lt _ _ ⟨0,0,none⟩ hlt];exact hg
 have htl:t.block<w.heap.size:=by
  rcases VM t.block w.heap.size with h|h
  ·exact h
  ·simp[World.cell?,Vk h]at ht0
 have el:=J3 ⟨w.heap.size,0,none⟩ t (((w.alloc (.cells #[.pointer (some t)] 116)).alloc (.cells #[.pointer (some ⟨4,116,none⟩), .pointer (some ⟨w.heap.size,0,none⟩), .int .u64 150] 156)).alloc (.cells #[.pointer (some ⟨4,116,none⟩), .pointer (some ⟨w.heap.size,0,none⟩), .int .u64 150] 156)) (by rw[World.cell?_alloc_lt _ _ ⟨w.heap.size,0,none⟩ (by simp;omega)];simp)
 have st:=Ng t ⟨w.heap.size+1+1+1,0,none⟩ n old ((((w.alloc (.cells #[.pointer (some t)] 116)).alloc (.cells #[.pointer (some ⟨4,116,none⟩), .pointer (some ⟨w.heap.size,0,none⟩), .int .u64 150] 156)).alloc (.cells #[.pointer (some ⟨4,116,none⟩), .pointer (some ⟨w.heap.size,0,none⟩), .int .u64 150] 156)).alloc (.cells #[(.int .i64 n)] 32))
  (by rw[World.cell?_alloc_at _ _ _ _ (by simp)];rfl)
  (by rw[World.cell?_alloc_lt _ _ t (by simp;omega),World.cell?_alloc_lt _ _ t (by simp;omega),World.cell?_alloc_lt _ _ t (by simp;omega),World.cell?_alloc_lt _ _ t htl];exact ht0)
  (by rw[World.frozen?_alloc_old _ _ t (by simp;omega),World.frozen?_alloc_old _ _ t (by simp;omega),World.frozen?_alloc_old _ _ t (by simp;omega),World.frozen?_alloc_old _ _ t (Nat.ne_of_lt htl)];exact hf0)
 go_enter Tryz.func48,Tryz.ntmps48
 go_wp2
 refine wp_loop_rounds 1 ?_
 rw[rounds_succ]
 go_wp2
 go_ret
 exact⟨rfl,rfl⟩
end Go.Proofs.YtgpofjbdjiajeaaGreatDoor
end
section
namespace Go.Proofs.YtgpofjbdjiajeaaGreatDoor
open Go.RowKit Go.Extern.Stop Go.Stop Go.Extern
theorem Po (e:Addr) {N B:Nat} {old:Value} {w0 w:World} (hb:Boxed w B 110 old) (hg:w.cell? ⟨0,0,none⟩=some jO) (hbel:Below N w0 w) (hN:N≤B):
  Calls Tryz.prog 48 #[.iface 110 (.pointer (some e)), .iface 115 (.pointer (some ⟨B,0,none⟩))] w fun ev w' =>ev= .returned (.bool true)∧Boxed w' B 110 (.pointer (some e))∧Below N w0 w'∧∀k,k<w.heap.size→k≠B→w'.heap[k]? =w.heap[k]? :=by
 refine(Pl e ⟨B,0,none⟩ old w hg hb.cell hb.frozen).mono ?_
 rintro ev w' ⟨rfl,rfl⟩
 have hl:=hb.lt
 have hN2:N≤w.heap.size:=by omega
 have hb4:∀W:World,Boxed W B 110 old→B<W.heap.size→Boxed (W.setCell ⟨B,0,none⟩ (.pointer (some e))) B 110 (.pointer (some e)):=fun W h _=>h.set _
 have q:∀(k:Nat) (a b c d:Obj),k<w.heap.size→((((w.alloc a).alloc b).alloc c).alloc d).heap[k]? =w.heap[k]? :=fun k a b c d hk=>by
  rw[Below.heap_alloc _ _ k (by simp;omega),Below.heap_alloc _ _ k (by simp;omega),Below.heap_alloc _ _ k (by simp;omega),Below.heap_alloc _ _ k hk]
 refine⟨rfl,?_,?_,fun k hk hne=>?_⟩
 ·exact Boxed.set (v:=old) _ ((q B _ _ _ _ hl).trans hb)
 ·refine Below.setCell ?_ (show N≤(⟨B,0,Option.none⟩:Addr).block from hN) _
  exact(((hbel.alloc hN2 _).alloc (by simp;omega) _).alloc (by simp;omega) _).alloc (by simp;omega) _
 ·exact(Below.heap_setCell _ _ _ k (by simpa using hne)).trans (q k _ _ _ _ hk)
theorem Pp (n:Int) {N B:Nat} {old:Value} {w0 w:World} (hb:Boxed w B 32 old) (hg:w.cell? ⟨0,0,none⟩=some jO) (hbel:Below N w0 w) (hN:N≤B):
  Calls Tryz.prog 48 #[.iface 32 (.int .i64 n), .iface 116 (.pointer (some ⟨B,0,none⟩))] w fun ev w' =>ev= .returned (.bool true)∧Boxed w' B 32 (.int .i64 n)∧Below N w0 w'∧∀k,k<w.heap.size→k≠B→w'.heap[k]? =w.heap[k]? :=by
 refine(Pn n ⟨B,0,none⟩ old w hg hb.cell hb.frozen).mono ?_
 rintro ev w' ⟨rfl,rfl⟩
 have hl:=hb.lt
 have hN2:N≤w.heap.size:=by omega
 have hb4:∀W:World,Boxed W B 32 old→B<W.heap.size→Boxed (W.setCell ⟨B,0,none⟩ (.int .i64 n)) B 32 (.int .i64 n):=fun W h _=>h.set _
 have q:∀(k:Nat) (a b c d:Obj),k<w.heap.size→((((w.alloc a).alloc b).alloc c).alloc d).heap[k]? =w.heap[k]? :=fun k a b c d hk=>by
  rw[Below.heap_alloc _ _ k (by simp;omega),Below.heap_alloc _ _ k (by simp;omega),Below.heap_alloc _ _ k (by simp;omega),Below.heap_alloc _ _ k hk]
 refine⟨rfl,?_,?_,fun k hk hne=>?_⟩
 ·exact Boxed.set (v:=old) _ ((q B _ _ _ _ hl).trans hb)
 ·refine Below.setCell ?_ (show N≤(⟨B,0,Option.none⟩:Addr).block from hN) _
  exact(((hbel.alloc hN2 _).alloc (by simp;omega) _).alloc (by simp;omega) _).alloc (by simp;omega) _
 ·exact(Below.heap_setCell _ _ _ k (by simpa using hne)).trans (q k _ _ _ _ hk)
set_option maxHeartbeats 4000000 in
theorem Pq (b o:Nat) (n:Int) (w:World) (hg:w.cell? ⟨0,0,none⟩=some jO) (hc:w.cell? ⟨b,o+1,none⟩=some (.iface 32 (.int .i64 n))):
  Calls Tryz.prog 26 #[.iface 110 (.pointer (some ⟨b,o,none⟩))] w fun e w' =>e= .returned (.int .i64 n)∧Below w.heap.size w w' :=by
 have hlt:0<w.heap.size:=by
  rcases VM 0 w.heap.size with h|h
  ·exact h
  ·simp[World.cell?,Vk h]at hg
 have hbl:b<w.heap.size:=by
  rcases VM b w.heap.size with h|h
  ·exact h
  ·simp[World.cell?,Vk h]at hc
 obtain⟨W0,hW0⟩:∃W0,((w.alloc (.cells #[.pointer none] 110)).alloc (.cells #[.int .i64 0] 32)).setCell ⟨w.heap.size+1,0,none⟩ (.int .i64 0)=W0:=⟨_,rfl⟩
 have q0:∀k,k<w.heap.size→W0.heap[k]? =w.heap[k]? :=fun k hk=>by
  rw[←hW0,Below.heap_setCell _ _ _ k (show k≠w.heap.size+1 by omega),Below.heap_alloc _ _ k (by simp;omega),Below.heap_alloc _ _ k hk]
 have s0:W0.heap.size=w.heap.size+2:=by rw[←hW0];simp
 have b1:Boxed W0 w.heap.size 110 (.pointer none):=by
  rw[←hW0]
  exact(Below.heap_setCell _ _ _ _ (show w.heap.size≠w.heap.size+1 by omega)).trans ((Below.heap_alloc _ _ _ (by simp)).trans (World.alloc_heap_new w _))
 have b2:Boxed W0 (w.heap.size+1) 32 (.int .i64 0):=by
  rw[←hW0]
  refine Boxed.set (v:= .int .i64 0) _ ?_
  have:=World.alloc_heap_new (w.alloc (.cells #[.pointer none] 110)) (.cells #[.int .i64 0] 32)
  rwa [World.size_alloc]at this
 have bel0:Below w.heap.size w W0:=by rw[←hW0];exact Below.setCell (((Below.refl _ w).alloc (TY _) _).alloc (by simp) _) (show w.heap.size≤w.heap.size+1 by omega) _
 have hg0:W0.cell? ⟨0,0,none⟩=some jO:=(World.cell?_of_block (a:=⟨0,0,none⟩) (q0 _ hlt)).trans hg
 go_enter Tryz.func26,Tryz.ntmps26
 go_wp2_with (go_at_call 48;rw[hW0])
 refine(Po ⟨b,o,none⟩ b1 hg0 bel0 (TY _)).mono ?_
 rintro e1 W1 ⟨rfl,k1,k2,k3⟩
 have c1:=k1.cell
 have c2:=(World.cell?_of_block (a:=⟨b,o+1,none⟩) ((k3 b (by omega) (by omega)).trans (q0 b hbl))).trans hc
 have hg1:=(World.cell?_of_block (a:=⟨0,0,none⟩) (k3 0 (by omega) (by omega))).trans hg0
 have b3:Boxed W1 (w.heap.size+1) 32 (.int .i64 0):=(k3 _ (by omega) (by omega)).trans b2
 clear b1 b2 q0 hg0 hc bel0 hW0
 have hz:=Pp n b3 hg1 k2 (by omega)
 clear b3 hg1 k2 k1 k3 hg hlt s0
 go_wp2_with (go_at_call 48;refine hz.mono ?_;rintro e2 W2 ⟨rfl,m1,m2,m3⟩;have c3:=m1.cell)
 go_ret
 exact⟨rfl,m2⟩
end Go.Proofs.YtgpofjbdjiajeaaGreatDoor
end
