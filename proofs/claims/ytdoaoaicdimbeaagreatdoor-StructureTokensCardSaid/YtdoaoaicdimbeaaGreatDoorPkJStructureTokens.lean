/- The law StructureTokens is true of every input: how any message is made is told by tokens whose brackets close, with one pair around all. -/
import Derived.Test.YtdoaoaicdimbeaaGreatDoorPkG
set_option linter.all false
set_option linter.unusedVariables false
set_option linter.unusedSimpArgs false
namespace Go.Proofs.YtdoaoaicdimbeaaGreatDoor.structureTokens
open Go.ChangeShapes Go.WideShapes Go.ChangeAt Go.RowKit Go.Ev
open Go.ChangeMaps (open_string shut_string)

theorem fact (x0:List UInt8) (x1:Bool):∃k,aA cfg k 10 [.lst 5 false (ofBytes x0), .bool x1] []=some (.bool true,[]):=by
 obtain⟨K,h⟩:=RY x0 x1
 exact⟨K,h K (Nat.le_refl _)⟩

theorem walk (W:World) (x0:List UInt8) (vx0:Value) (rx0:Rep cfg W (rY W) [] (.lst 5 false (ofBytes x0)) vx0) (x1:Bool):
  Calls Tryz.prog 10 #[vx0, .bool x1] W fun e w' =>e= .returned (.bool true)∧Kept W w' :=by
 obtain⟨k,hk⟩:=fact x0 x1
 refine Of I9 Ls hk (fn:=Tryz.f10) rfl rfl (cargs:=[vx0, .bool x1]) rfl (fun i v x hv hx=>?_) (fun v hv=>?_)
 ·match i with
  |0=>simp at hv hx;subst hv;subst hx;exact rx0
  |1=>simp at hv hx;subst hv;subst hx;exact .bool _
  |i+2=>simp at hv
 ·simp at hv
  rcases hv with rfl|rfl<;>rfl

set_option maxRecDepth 100000 in
theorem contract (H:Type) (enc:TypeId×Value→H) (W:World) (base:Nat) (args:Array Value) (ds gs:List (DataW H)) (before:List MemPlace)
  (hval:∀(j:Nat) t v,Tryz.f10.params[j]? =some t→args[j]? =some v→Value.okWide Tryz.prog W .any base t v)
  (hW:DataW.Whole enc Tryz.prog Tryz.f10.params.toList Rows.structureTokensSpec.vars false W args.toList ds gs before):
  Calls Tryz.prog 10 args W fun e W' =>∃v,e= .returned v∧Rows.structureTokensSpec.post enc Tryz.prog Tryz.f10 false true false false W args v W' :=by
 have hW' :=hW
 obtain⟨p,q,hA0,hV,rfl,hfz,hnd⟩:=hW
 have hA:DataW.TrodAll enc Tryz.prog W 0 (fun _=>true) true Tryz.f10.params.toList args.toList ds p:=hA0
 rw[Tryz.params10]at hA hval
 obtain⟨v0,vs0,d0,ds0,p0,q0,hargs0,rfl,rfl,h0,r0⟩:=trodAll_cons hA
 obtain⟨v1,vs1,d1,ds1,p1,q1,hargs1,rfl,rfl,h1,r1⟩:=trodAll_cons r0
 obtain⟨rfl,rfl,rfl⟩:=trodAll_nil r1
 obtain rfl:args= #[v0,v1]:=by cases args;simp_all
 obtain⟨rfl,rfl⟩:=trodVars_none hV
 obtain⟨x0,hrep0,hback0⟩:=K4 (hval 0 40 v0 rfl rfl) h0
 obtain⟨x1,rfl,rfl,rfl⟩:=open_bool Tryz.underlying4 (hval 1 4 v1 rfl rfl) h1
 clear hA0
 simp only[List.append_nil]at hW'
 refine(walk W x0 v0 hrep0 x1).mono fun e W' ⟨he,hg⟩=>?_
 subst he
 refine⟨_,rfl,C7 (pa:=p0) (pv:=[]) hW' (fun _ _ _=>trodAll_cons_mk (shut_bool Tryz.underlying4 _) trodAll_mk0) (fun sp hsp=>?_) (fun _ _=>rfl) (by simp)
  hg (ok_one (by kernel_rfl) rfl (okWide_bool_mk Tryz.underlying4 _))⟩
 have:=trodAll_cons_mk (hback0 W' hg sp hsp) (trodAll_cons_mk (shut_bool (enc:=enc) (w:=W') (base:=0) (spare:=sp) (held:=true) Tryz.underlying4 x1) trodAll_mk0)
 simp only[List.append_nil,List.nil_append]at this
 exact this

theorem laid_met (os:Os):laidMet Tryz.prog Rows.structureTokensRow.laid ((laidWorld os).forCall (fun _ _=>0) ⟨#[],#[.slice none 0 0, .bool false],[]⟩).memory:=
 laidMet_of_run' 8 (by kernel_rfl) (by kernel_rfl)
theorem reads (os:Os) {H:Type} (enc:TypeId×Value→H):∃places,DataW.whole enc Tryz.prog ((laidWorld os).forCall (fun _ _=>0) ⟨#[],#[.slice none 0 0, .bool false],[]⟩).memory Tryz.f10.params.toList Rows.structureTokensSpec.vars false #[Value.slice none 0 0,Value.bool false].toList 8=some ([.nil, .lit (.bool false)],[],places):=
 ⟨[],by kernel_rfl⟩

set_option maxRecDepth 100000 in
theorem lifted (os:Os) (started:os.Started) (H:Type) (enc:TypeId×Value→H) (F:Stop.Interp):
  ReturnsInHanded {} Tryz.checked os 10 .any ((OpenSpec.ofChange Rows.structureTokensSpec).preRow enc Tryz.prog Tryz.f10 Rows.structureTokensRow.domain false Rows.structureTokensRow.laid) (((OpenSpec.ofChange Rows.structureTokensSpec).at F).post enc Tryz.prog Tryz.f10 false true false false):=by
 obtain⟨places,hx⟩:=reads os enc
 refine returnsInHanded_of_row (C:=Tryz.checked) (s:=OpenSpec.ofChange Rows.structureTokensSpec) own started (by kernel_rfl) Tryz.func10
  (witness_row_at (enc:=enc) (C:=Tryz.checked) false (laidWorld os) #[.slice none 0 0, .bool false] rfl (by kernel_rfl) (by kernel_rfl) (by kernel_rfl)
   (OpenSpec.preRow_of_cond 8 hx (by kernel_rfl) (fun k hk=>by cases hk) (by kernel_rfl) (laid_met os))) ?_
 intro W base args ds gs before hval hW _ _ hz hL _ _
 exact contract H enc W base args ds gs before hval hW

theorem said:Rows.StructureTokensSaid:=
 OpenClaim.holds_of_cond 10 Tryz.f10 rfl rfl rfl rfl rfl rfl rfl ⟨rfl,rfl,rfl,rfl,rfl⟩ rfl rfl rfl rfl rfl (by kernel_rfl) Tryz.func10 (by kernel_rfl)
  (of_decide_eq_true (by kernel_rfl)) (by unfold Func.isWrapper;first|(rw[if_pos (by decide+kernel)];kernel_rfl)|(rw[if_neg (by decide+kernel)];exact⟨rfl,rfl⟩))
  (fun os started H enc _ F=>by rw[OpenClaim.pre_eq_preRow];exact lifted os started H enc F)

theorem plain (f : FuncId) (fn : Func) (hf : Tryz.pinned.checked.prog.funcNamed "letterbox/letterboxlaw20.StructureTokens" = some f) (hfn : Tryz.pinned.checked.prog.funcs[f]? = some fn) :
  true=Tryz.pinned.checked.prog.looks []∧∀(j:Nat) t,fn.params[j]? =some t→Tryz.pinned.checked.prog.wantsStandIn t=false:=by
 obtain rfl : f = 10 := Option.some.inj ((show Tryz.prog.funcNamed "letterbox/letterboxlaw20.StructureTokens" = some 10 by kernel_rfl).symm.trans hf) |>.symm
 obtain rfl:fn=Tryz.f10:=(Option.some.inj (Tryz.func10.symm.trans hfn)).symm
 refine⟨by kernel_rfl,fun j t ht=>?_⟩
 rw[Tryz.params10]at ht
 obtain rfl|rfl:t=40∨t=4:=by simpa using Array.mem_of_getElem? ht
 ·exact(show Tryz.prog.wantsStandIn 40=false by kernel_rfl)
 ·exact(show Tryz.prog.wantsStandIn 4=false by kernel_rfl)

theorem card:Rows.StructureTokensCardSaid:=
 Claim7.holds_tied_plain_at .later [] _ _ _ _ said (fun _ h=>by cases h) (by kernel_rfl) (fun _ h=>by cases h) structureTokens_row_tie rfl ⟨rfl,rfl⟩ (by kernel_rfl) rfl plain (by kernel_rfl)
end Go.Proofs.YtdoaoaicdimbeaaGreatDoor.structureTokens
