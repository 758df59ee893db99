/- RecordSmall: true of every input. -/
import Derived.Test.YtgpofjbdjiajeaaGreatDoorPkG
open List renaming append_nil→UI,nil_append→UV
open Nat renaming le_refl→TY
set_option linter.all false
set_option linter.unusedVariables false
set_option linter.unusedSimpArgs false
namespace Go.Proofs.YtgpofjbdjiajeaaGreatDoor.recordSmall
open Go.ChangeShapes Go.WideShapes Go.ChangeAt Go.RowKit Go.Ev
open Go.ChangeMaps (open_string shut_string)

theorem fact (x0:List UInt8) (x1:Int) (hx1:(0:Int)≤x1∧x1<256):∃k,aA cfg k 4 [.lst 5 false (ofBytes x0), .int .u8 x1] []=some (.bool true,[]):=by
 obtain⟨K,h⟩:=TD x0 x1 hx1
 exact⟨K,h K (TY _)⟩

theorem walk (W:World) (hgl:∀g t,cfg.glob g=some t→pO W (kL W) g 0 t.vals) (x0:List UInt8) (vx0:Value) (rx0:Rep cfg W (kL W) [] (.lst 5 false (ofBytes x0)) vx0) (x1:Int) (hx1:(0:Int)≤x1∧x1<256):
  Calls Tryz.prog 4 #[vx0, .int .u8 x1] W fun e w' =>e= .returned (.bool true)∧Kept W w' :=by
 obtain⟨k,hk⟩:=fact x0 x1 hx1
 refine K5 H4 IK hk (fn:=Tryz.f4) rfl rfl (cargs:=[vx0, .int .u8 x1]) rfl (fun i v x hv hx=>?_) (fun v hv=>?_) hgl
 ·match i with
  |0=>simp at hv hx;subst hv;subst hx;exact rx0
  |1=>simp at hv hx;subst hv;subst hx;exact .int _ _
  |i+2=>simp at hv
 ·simp at hv
  rcases hv with rfl|rfl<;>rfl

set_option maxRecDepth 100000 in
theorem contract (H:Type) (enc:TypeId×Value→H) (W:World) (base:Nat) (args:Array Value) (ds gs:List (DataW H)) (before:List MemPlace)
  (hval:∀(j:Nat) t v,Tryz.f4.params[j]? =some t→args[j]? =some v→Value.okWide Tryz.prog W .any base t v)
  (hW:DataW.Whole enc Tryz.prog Tryz.f4.params.toList Rows.recordSmallSpec.vars false W args.toList ds gs before) (hL:laidMetH Tryz.prog Rows.recordSmallRow.laid W):
  Calls Tryz.prog 4 args W fun e W' =>∃v,e= .returned v∧Rows.recordSmallSpec.post enc Tryz.prog Tryz.f4 false true false false W args v W' :=by
 have hW' :=hW
 obtain⟨p,q,hA0,hV,rfl,hfz,hnd⟩:=hW
 have hA:DataW.TrodAll enc Tryz.prog W 0 (fun _=>true) true Tryz.f4.params.toList args.toList ds p:=hA0
 rw[Tryz.params4]at hA hval
 obtain⟨v0,vs0,d0,ds0,p0,q0,hargs0,rfl,rfl,h0,r0⟩:=trodAll_cons hA
 obtain⟨v1,vs1,d1,ds1,p1,q1,hargs1,rfl,rfl,h1,r1⟩:=trodAll_cons r0
 obtain⟨rfl,rfl,rfl⟩:=trodAll_nil r1
 obtain rfl:args= #[v0,v1]:=by cases args;simp_all
 obtain⟨rfl,rfl⟩:=trodVars_none hV
 obtain⟨x0,hrep0,hback0⟩:=BG (hval 0 22 v0 rfl rfl) h0
 obtain⟨x1,rfl,rfl,rfl,hw1⟩:=open_int Tryz.underlying5 (hval 1 5 v1 rfl rfl) h1
 have hb1:=bounds_u8 hw1
 clear hA0
 simp only[UI]at hW'
 refine(walk W (Ji hL) x0 v0 hrep0 x1 (by omega)).mono fun e W' ⟨he,hg⟩=>?_
 subst he
 refine⟨_,rfl,uT (pa:=p0) (pv:=[]) hW' (fun _ _ _=>trodAll_cons_mk (shut_bool Tryz.underlying4 _) trodAll_mk0) (fun sp hsp=>?_) (fun _ _=>rfl) (by simp)
  hg (ok_one (by kernel_rfl) rfl (okWide_bool_mk Tryz.underlying4 _))⟩
 have:=trodAll_cons_mk (hback0 W' hg sp hsp) (trodAll_cons_mk (shut_int (enc:=enc) (w:=W') (base:=0) (spare:=sp) (held:=true) Tryz.underlying5 hw1) trodAll_mk0)
 simp only[UI,UV]at this
 exact this

theorem laid_met (os:Os):laidMetH Tryz.prog Rows.recordSmallRow.laid ((laidWorld os).forCall (fun _ _=>0) ⟨#[],#[.slice none 0 0, .int .u8 0],[]⟩).memory:=
 laidMetH_of_parts (laidMet_of_run' 8 (by kernel_rfl) (by kernel_rfl)) (by kernel_rfl)
theorem reads (os:Os) {H:Type} (enc:TypeId×Value→H):∃places,DataW.whole enc Tryz.prog ((laidWorld os).forCall (fun _ _=>0) ⟨#[],#[.slice none 0 0, .int .u8 0],[]⟩).memory Tryz.f4.params.toList Rows.recordSmallSpec.vars false #[Value.slice none 0 0,Value.int .u8 0].toList 8=some ([.nil, .lit (.int .u8 0)],[],places):=
 ⟨[],by kernel_rfl⟩

set_option maxRecDepth 100000 in
theorem lifted (os:Os) (started:os.Started) (H:Type) (enc:TypeId×Value→H) (F:Stop.Interp):
  ReturnsInHanded {} Tryz.checked os 4 .any ((OpenSpec.ofChange Rows.recordSmallSpec).preRow enc Tryz.prog Tryz.f4 Rows.recordSmallRow.domain false Rows.recordSmallRow.laid) (((OpenSpec.ofChange Rows.recordSmallSpec).at F).post enc Tryz.prog Tryz.f4 false true false false):=by
 obtain⟨places,hx⟩:=reads os enc
 refine returnsInHanded_of_row (C:=Tryz.checked) (s:=OpenSpec.ofChange Rows.recordSmallSpec) own started (by kernel_rfl) Tryz.func4
  (witness_row_at (enc:=enc) (C:=Tryz.checked) false (laidWorld os) #[.slice none 0 0, .int .u8 0] rfl (by kernel_rfl) (by kernel_rfl) (by kernel_rfl)
   (OpenSpec.preRow_of_cond 8 hx (by kernel_rfl) (fun k hk=>by cases hk) (by kernel_rfl) (laid_met os))) ?_
 intro W base args ds gs before hval hW _ _ hz hL _ _
 exact contract H enc W base args ds gs before hval hW hL

theorem said:Rows.RecordSmallSaid:=
 OpenClaim.holds_of_cond 4 Tryz.f4 rfl rfl rfl rfl rfl rfl rfl ⟨rfl,rfl,rfl,rfl,rfl⟩ rfl rfl rfl rfl rfl (by kernel_rfl) Tryz.func4 (by kernel_rfl)
  (of_decide_eq_true (by kernel_rfl)) (by unfold Func.isWrapper;first|(rw[if_pos (by decide+kernel)];kernel_rfl)|(rw[if_neg (by decide+kernel)];exact⟨rfl,rfl⟩))
  (fun os started H enc _ F=>by rw[OpenClaim.pre_eq_preRow];exact lifted os started H enc F)

theorem plain (f : FuncId) (fn : Func) (hf : Tryz.pinned.checked.prog.funcNamed "letterbox/letterboxlaw14.RecordSmall" = some f) (hfn : Tryz.pinned.checked.prog.funcs[f]? = some fn) :
  true=Tryz.pinned.checked.prog.looks []∧∀(j:Nat) t,fn.params[j]? =some t→Tryz.pinned.checked.prog.wantsStandIn t=false:=by
 obtain rfl : f = 4 := Option.some.inj ((show Tryz.prog.funcNamed "letterbox/letterboxlaw14.RecordSmall" = some 4 by kernel_rfl).symm.trans hf) |>.symm
 obtain rfl:fn=Tryz.f4:=(Option.some.inj (Tryz.func4.symm.trans hfn)).symm
 refine⟨by kernel_rfl,fun j t ht=>?_⟩
 rw[Tryz.params4]at ht
 obtain rfl|rfl:t=22∨t=5:=by simpa using Array.mem_of_getElem? ht
 ·exact(show Tryz.prog.wantsStandIn 22=false by kernel_rfl)
 ·exact(show Tryz.prog.wantsStandIn 5=false by kernel_rfl)

theorem card:Rows.RecordSmallCardSaid:=
 Claim7.holds_tied_plain_at .later [] _ _ _ _ said (fun _ h=>by cases h) (by kernel_rfl) (fun _ h=>by cases h) recordSmall_row_tie rfl ⟨rfl,rfl⟩ (by kernel_rfl) rfl plain (by kernel_rfl)
end Go.Proofs.YtgpofjbdjiajeaaGreatDoor.recordSmall
