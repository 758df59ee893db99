/- The law BinaryWhole is true of every input: a part's bytes asked for in binary are the part's bytes when it is made of parts, and the whole message is its own. -/
import Derived.Test.YtdoaoaicdimbeaaGreatDoorPkF
set_option linter.all false
set_option linter.unusedVariables false
set_option linter.unusedSimpArgs false
namespace Go.Proofs.YtdoaoaicdimbeaaGreatDoor.binaryWhole
open Go.ChangeShapes Go.WideShapes Go.ChangeAt Go.RowKit Go.Ev
open Go.ChangeMaps (open_string shut_string)

theorem fact (x0:List UInt8):∃k,aA cfg k 5 [.lst 5 false (ofBytes x0)] []=some (.bool true,[]):=by
 obtain⟨K,h⟩:=Oe x0
 exact⟨K,h K (Nat.le_refl _)⟩

theorem walk (W:World) (x0:List UInt8) (vx0:Value) (rx0:Rep cfg W (pK W) [] (.lst 5 false (ofBytes x0)) vx0):
  Calls Tryz.prog 5 #[vx0] W fun e w' =>e= .returned (.bool true)∧Kept W w' :=by
 obtain⟨k,hk⟩:=fact x0
 refine Jy FV HZ hk (fn:=Tryz.f5) rfl rfl (cargs:=[vx0]) rfl (fun i v x hv hx=>?_) (fun v hv=>?_)
 ·match i with
  |0=>simp at hv hx;subst hv;subst hx;exact rx0
  |i+1=>simp at hv
 ·simp at hv
  subst hv;rfl

set_option maxRecDepth 100000 in
theorem contract (H:Type) (enc:TypeId×Value→H) (W:World) (base:Nat) (args:Array Value) (ds gs:List (DataW H)) (before:List MemPlace)
  (hval:∀(j:Nat) t v,Tryz.f5.params[j]? =some t→args[j]? =some v→Value.okWide Tryz.prog W .any base t v)
  (hW:DataW.Whole enc Tryz.prog Tryz.f5.params.toList Rows.binaryWholeSpec.vars false W args.toList ds gs before):
  Calls Tryz.prog 5 args W fun e W' =>∃v,e= .returned v∧Rows.binaryWholeSpec.post enc Tryz.prog Tryz.f5 false true false false W args v W' :=by
 have hW' :=hW
 obtain⟨p,q,hA0,hV,rfl,hfz,hnd⟩:=hW
 have hA:DataW.TrodAll enc Tryz.prog W 0 (fun _=>true) true Tryz.f5.params.toList args.toList ds p:=hA0
 rw[Tryz.params5]at hA hval
 obtain⟨v0,vs0,d0,ds0,p0,q0,hargs0,rfl,rfl,h0,r0⟩:=trodAll_cons hA
 obtain⟨rfl,rfl,rfl⟩:=trodAll_nil r0
 obtain rfl:args= #[v0]:=by cases args;simp_all
 obtain⟨rfl,rfl⟩:=trodVars_none hV
 obtain⟨x0,hrep0,hback0⟩:=Hv (hval 0 40 v0 rfl rfl) h0
 clear hA0
 simp only[List.append_nil]at hW'
 refine(walk W x0 v0 hrep0).mono fun e W' ⟨he,hg⟩=>?_
 subst he
 refine⟨_,rfl,A3 (pa:=p0) (pv:=[]) hW' (fun _ _ _=>trodAll_cons_mk (shut_bool Tryz.underlying4 _) trodAll_mk0) (fun sp hsp=>?_) (fun _ _=>rfl) (by simp)
  hg (ok_one (by kernel_rfl) rfl (okWide_bool_mk Tryz.underlying4 _))⟩
 have:=trodAll_cons_mk (hback0 W' hg sp hsp) trodAll_mk0
 simp only[List.append_nil,List.nil_append]at this
 exact this

theorem laid_met (os:Os):laidMet Tryz.prog Rows.binaryWholeRow.laid ((laidWorld os).forCall (fun _ _=>0) ⟨#[],#[.slice none 0 0],[]⟩).memory:=
 laidMet_of_run' 8 (by kernel_rfl) (by kernel_rfl)
theorem reads (os:Os) {H:Type} (enc:TypeId×Value→H):∃places,DataW.whole enc Tryz.prog ((laidWorld os).forCall (fun _ _=>0) ⟨#[],#[.slice none 0 0],[]⟩).memory Tryz.f5.params.toList Rows.binaryWholeSpec.vars false #[Value.slice none 0 0].toList 8=some ([.nil],[],places):=
 ⟨[],by kernel_rfl⟩

set_option maxRecDepth 100000 in
theorem lifted (os:Os) (started:os.Started) (H:Type) (enc:TypeId×Value→H) (F:Stop.Interp):
  ReturnsInHanded {} Tryz.checked os 5 .any ((OpenSpec.ofChange Rows.binaryWholeSpec).preRow enc Tryz.prog Tryz.f5 Rows.binaryWholeRow.domain false Rows.binaryWholeRow.laid) (((OpenSpec.ofChange Rows.binaryWholeSpec).at F).post enc Tryz.prog Tryz.f5 false true false false):=by
 obtain⟨places,hx⟩:=reads os enc
 refine returnsInHanded_of_row (C:=Tryz.checked) (s:=OpenSpec.ofChange Rows.binaryWholeSpec) own started (by kernel_rfl) Tryz.func5
  (witness_row_at (enc:=enc) (C:=Tryz.checked) false (laidWorld os) #[.slice none 0 0] rfl (by kernel_rfl) (by kernel_rfl) (by kernel_rfl)
   (OpenSpec.preRow_of_cond 8 hx (by kernel_rfl) (fun k hk=>by cases hk) (by kernel_rfl) (laid_met os))) ?_
 intro W base args ds gs before hval hW _ _ hz hL _ _
 exact contract H enc W base args ds gs before hval hW

theorem said:Rows.BinaryWholeSaid:=
 OpenClaim.holds_of_cond 5 Tryz.f5 rfl rfl rfl rfl rfl rfl rfl ⟨rfl,rfl,rfl,rfl,rfl⟩ rfl rfl rfl rfl rfl (by kernel_rfl) Tryz.func5 (by kernel_rfl)
  (of_decide_eq_true (by kernel_rfl)) (by unfold Func.isWrapper;first|(rw[if_pos (by decide+kernel)];kernel_rfl)|(rw[if_neg (by decide+kernel)];exact⟨rfl,rfl⟩))
  (fun os started H enc _ F=>by rw[OpenClaim.pre_eq_preRow];exact lifted os started H enc F)

theorem plain (f : FuncId) (fn : Func) (hf : Tryz.pinned.checked.prog.funcNamed "letterbox/letterboxlaw17.BinaryWhole" = some f) (hfn : Tryz.pinned.checked.prog.funcs[f]? = some fn) :
  true=Tryz.pinned.checked.prog.looks []∧∀(j:Nat) t,fn.params[j]? =some t→Tryz.pinned.checked.prog.wantsStandIn t=false:=by
 obtain rfl : f = 5 := Option.some.inj ((show Tryz.prog.funcNamed "letterbox/letterboxlaw17.BinaryWhole" = some 5 by kernel_rfl).symm.trans hf) |>.symm
 obtain rfl:fn=Tryz.f5:=(Option.some.inj (Tryz.func5.symm.trans hfn)).symm
 refine⟨by kernel_rfl,fun j t ht=>?_⟩
 rw[Tryz.params5]at ht
 obtain rfl:t=40:=by simpa using Array.mem_of_getElem? ht
 exact(show Tryz.prog.wantsStandIn 40=false by kernel_rfl)

theorem card:Rows.BinaryWholeCardSaid:=
 Claim7.holds_tied_plain_at .later [] _ _ _ _ said (fun _ h=>by cases h) (by kernel_rfl) (fun _ h=>by cases h) binaryWhole_row_tie rfl ⟨rfl,rfl⟩ (by kernel_rfl) rfl plain (by kernel_rfl)
end Go.Proofs.YtdoaoaicdimbeaaGreatDoor.binaryWhole
