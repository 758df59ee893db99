/- RecordOne: true of every input. -/
import Derived.Test.YtgpofjbdjiajeaaGreatDoorPkG
open List renaming append_nil→UI,nil_append→UV
open Nat renaming le_refl→TY
set_option linter.all false
set_option linter.unusedVariables false
set_option linter.unusedSimpArgs false
namespace Go.Proofs.YtgpofjbdjiajeaaGreatDoor.recordOne
open Go.ChangeShapes Go.WideShapes Go.ChangeAt Go.RowKit Go.Ev
open Go.ChangeMaps (open_string shut_string)

theorem fact (x0:List UInt8) (x1:List UInt8) (x2:Int) (hx2:(0:Int)≤x2∧x2<65536) (x3:Int) (hx3:(0:Int)≤x3∧x3<256):∃k,aA cfg k 5 [.lst 5 false (ofBytes x0), .lst 5 false (ofBytes x1), .int .u16 x2, .int .u8 x3] []=some (.bool true,[]):=by
 obtain⟨K,h⟩:=TJ x0 x1 x2 hx2 x3 hx3
 exact⟨K,h K (TY _)⟩

theorem walk (W:World) (hgl:∀g t,cfg.glob g=some t→pO W (kL W) g 0 t.vals) (x0:List UInt8) (vx0:Value) (rx0:Rep cfg W (kL W) [] (.lst 5 false (ofBytes x0)) vx0) (x1:List UInt8) (vx1:Value) (rx1:Rep cfg W (kL W) [] (.lst 5 false (ofBytes x1)) vx1) (x2:Int) (hx2:(0:Int)≤x2∧x2<65536) (x3:Int) (hx3:(0:Int)≤x3∧x3<256):
  Calls Tryz.prog 5 #[vx0,vx1, .int .u16 x2, .int .u8 x3] W fun e w' =>e= .returned (.bool true)∧Kept W w' :=by
 obtain⟨k,hk⟩:=fact x0 x1 x2 hx2 x3 hx3
 refine K5 H4 IK hk (fn:=Tryz.f5) rfl rfl (cargs:=[vx0,vx1, .int .u16 x2, .int .u8 x3]) rfl (fun i v x hv hx=>?_) (fun v hv=>?_) hgl
 ·match i with
  |0=>simp at hv hx;subst hv;subst hx;exact rx0
  |1=>simp at hv hx;subst hv;subst hx;exact rx1
  |2=>simp at hv hx;subst hv;subst hx;exact .int _ _
  |3=>simp at hv hx;subst hv;subst hx;exact .int _ _
  |i+4=>simp at hv
 ·simp at hv
  rcases hv with rfl|rfl|rfl|rfl<;>rfl

set_option maxRecDepth 100000 in
theorem contract (H:Type) (enc:TypeId×Value→H) (W:World) (base:Nat) (args:Array Value) (ds gs:List (DataW H)) (before:List MemPlace)
  (hval:∀(j:Nat) t v,Tryz.f5.params[j]? =some t→args[j]? =some v→Value.okWide Tryz.prog W .any base t v)
  (hW:DataW.Whole enc Tryz.prog Tryz.f5.params.toList Rows.recordOneSpec.vars false W args.toList ds gs before) (hL:laidMetH Tryz.prog Rows.recordOneRow.laid W):
  Calls Tryz.prog 5 args W fun e W' =>∃v,e= .returned v∧Rows.recordOneSpec.post enc Tryz.prog Tryz.f5 false true false false W args v W' :=by
 have hW' :=hW
 obtain⟨p,q,hA0,hV,rfl,hfz,hnd⟩:=hW
 have hA:DataW.TrodAll enc Tryz.prog W 0 (fun _=>true) true Tryz.f5.params.toList args.toList ds p:=hA0
 rw[Tryz.params5]at hA hval
 obtain⟨v0,vs0,d0,ds0,p0,q0,hargs0,rfl,rfl,h0,r0⟩:=trodAll_cons hA
 obtain⟨v1,vs1,d1,ds1,p1,q1,hargs1,rfl,rfl,h1,r1⟩:=trodAll_cons r0
 obtain⟨v2,vs2,d2,ds2,p2,q2,hargs2,rfl,rfl,h2,r2⟩:=trodAll_cons r1
 obtain⟨v3,vs3,d3,ds3,p3,q3,hargs3,rfl,rfl,h3,r3⟩:=trodAll_cons r2
 obtain⟨rfl,rfl,rfl⟩:=trodAll_nil r3
 obtain rfl:args= #[v0,v1,v2,v3]:=by cases args;simp_all
 obtain⟨rfl,rfl⟩:=trodVars_none hV
 obtain⟨x0,hrep0,hback0⟩:=BG (hval 0 22 v0 rfl rfl) h0
 obtain⟨x1,hrep1,hback1⟩:=BG (hval 1 22 v1 rfl rfl) h1
 obtain⟨x2,rfl,rfl,rfl,hw2⟩:=open_int Tryz.underlying23 (hval 2 23 v2 rfl rfl) h2
 have hb2:=bounds_u16 hw2
 obtain⟨x3,rfl,rfl,rfl,hw3⟩:=open_int Tryz.underlying5 (hval 3 5 v3 rfl rfl) h3
 have hb3:=bounds_u8 hw3
 clear hA0
 simp only[UI]at hW'
 refine(walk W (Ji hL) x0 v0 hrep0 x1 v1 hrep1 x2 (by omega) x3 (by omega)).mono fun e W' ⟨he,hg⟩=>?_
 subst he
 refine⟨_,rfl,uT (pa:=p0++p1) (pv:=[]) hW' (fun _ _ _=>trodAll_cons_mk (shut_bool Tryz.underlying4 _) trodAll_mk0) (fun sp hsp=>?_) (fun _ _=>rfl) (by simp)
  hg (ok_one (by kernel_rfl) rfl (okWide_bool_mk Tryz.underlying4 _))⟩
 have:=trodAll_cons_mk (hback0 W' hg sp fun x hx=>hsp x (by simp[hx])) (trodAll_cons_mk (hback1 W' hg sp fun x hx=>hsp x (by simp[hx])) (trodAll_cons_mk (shut_int (enc:=enc) (w:=W') (base:=0) (spare:=sp) (held:=true) Tryz.underlying23 hw2) (trodAll_cons_mk (shut_int (enc:=enc) (w:=W') (base:=0) (spare:=sp) (held:=true) Tryz.underlying5 hw3) trodAll_mk0)))
 simp only[UI,UV]at this
 exact this

theorem laid_met (os:Os):laidMetH Tryz.prog Rows.recordOneRow.laid ((laidWorld os).forCall (fun _ _=>0) ⟨#[],#[.slice none 0 0, .slice none 0 0, .int .u16 0, .int .u8 0],[]⟩).memory:=
 laidMetH_of_parts (laidMet_of_run' 8 (by kernel_rfl) (by kernel_rfl)) (by kernel_rfl)
theorem reads (os:Os) {H:Type} (enc:TypeId×Value→H):∃places,DataW.whole enc Tryz.prog ((laidWorld os).forCall (fun _ _=>0) ⟨#[],#[.slice none 0 0, .slice none 0 0, .int .u16 0, .int .u8 0],[]⟩).memory Tryz.f5.params.toList Rows.recordOneSpec.vars false #[Value.slice none 0 0,Value.slice none 0 0,Value.int .u16 0,Value.int .u8 0].toList 8=some ([.nil, .nil, .lit (.int .u16 0), .lit (.int .u8 0)],[],places):=
 ⟨[],by kernel_rfl⟩

set_option maxRecDepth 100000 in
theorem lifted (os:Os) (started:os.Started) (H:Type) (enc:TypeId×Value→H) (F:Stop.Interp):
  ReturnsInHanded {} Tryz.checked os 5 .any ((OpenSpec.ofChange Rows.recordOneSpec).preRow enc Tryz.prog Tryz.f5 Rows.recordOneRow.domain false Rows.recordOneRow.laid) (((OpenSpec.ofChange Rows.recordOneSpec).at F).post enc Tryz.prog Tryz.f5 false true false false):=by
 obtain⟨places,hx⟩:=reads os enc
 refine returnsInHanded_of_row (C:=Tryz.checked) (s:=OpenSpec.ofChange Rows.recordOneSpec) own started (by kernel_rfl) Tryz.func5
  (witness_row_at (enc:=enc) (C:=Tryz.checked) false (laidWorld os) #[.slice none 0 0, .slice none 0 0, .int .u16 0, .int .u8 0] rfl (by kernel_rfl) (by kernel_rfl) (by kernel_rfl)
   (OpenSpec.preRow_of_cond 8 hx (by kernel_rfl) (fun k hk=>by cases hk) (by kernel_rfl) (laid_met os))) ?_
 intro W base args ds gs before hval hW _ _ hz hL _ _
 exact contract H enc W base args ds gs before hval hW hL

theorem said:Rows.RecordOneSaid:=
 OpenClaim.holds_of_cond 5 Tryz.f5 rfl rfl rfl rfl rfl rfl rfl ⟨rfl,rfl,rfl,rfl,rfl⟩ rfl rfl rfl rfl rfl (by kernel_rfl) Tryz.func5 (by kernel_rfl)
  (of_decide_eq_true (by kernel_rfl)) (by unfold Func.isWrapper;first|(rw[if_pos (by decide+kernel)];kernel_rfl)|(rw[if_neg (by decide+kernel)];exact⟨rfl,rfl⟩))
  (fun os started H enc _ F=>by rw[OpenClaim.pre_eq_preRow];exact lifted os started H enc F)

theorem plain (f : FuncId) (fn : Func) (hf : Tryz.pinned.checked.prog.funcNamed "letterbox/letterboxlaw14.RecordOne" = some f) (hfn : Tryz.pinned.checked.prog.funcs[f]? = some fn) :
  true=Tryz.pinned.checked.prog.looks []∧∀(j:Nat) t,fn.params[j]? =some t→Tryz.pinned.checked.prog.wantsStandIn t=false:=by
 obtain rfl : f = 5 := Option.some.inj ((show Tryz.prog.funcNamed "letterbox/letterboxlaw14.RecordOne" = some 5 by kernel_rfl).symm.trans hf) |>.symm
 obtain rfl:fn=Tryz.f5:=(Option.some.inj (Tryz.func5.symm.trans hfn)).symm
 refine⟨by kernel_rfl,fun j t ht=>?_⟩
 rw[Tryz.params5]at ht
 obtain rfl|rfl|rfl|rfl:t=22∨t=22∨t=23∨t=5:=by simpa using Array.mem_of_getElem? ht
 ·exact(show Tryz.prog.wantsStandIn 22=false by kernel_rfl)
 ·exact(show Tryz.prog.wantsStandIn 22=false by kernel_rfl)
 ·exact(show Tryz.prog.wantsStandIn 23=false by kernel_rfl)
 ·exact(show Tryz.prog.wantsStandIn 5=false by kernel_rfl)

theorem card:Rows.RecordOneCardSaid:=
 Claim7.holds_tied_plain_at .later [] _ _ _ _ said (fun _ h=>by cases h) (by kernel_rfl) (fun _ h=>by cases h) recordOne_row_tie rfl ⟨rfl,rfl⟩ (by kernel_rfl) rfl plain (by kernel_rfl)
end Go.Proofs.YtgpofjbdjiajeaaGreatDoor.recordOne
