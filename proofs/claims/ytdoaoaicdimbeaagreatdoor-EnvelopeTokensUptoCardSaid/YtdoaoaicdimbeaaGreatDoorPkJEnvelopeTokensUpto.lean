/- The law EnvelopeTokens is true of every input that is not too great (its bulk at most 1048576): any envelope is put as tokens, whose brackets close, with ten parts at the top. -/
import Derived.Test.YtdoaoaicdimbeaaGreatDoorPkE
set_option linter.all false
set_option linter.unusedVariables false
set_option linter.unusedSimpArgs false
namespace Go.Proofs.YtdoaoaicdimbeaaGreatDoor.envelopeTokensUpto
open Go.ChangeShapes Go.WideShapes Go.ChangeAt Go.RowKit Go.Ev
open Go.ChangeMaps (open_string shut_string)

theorem fact (x0:En) (hx0:CG x0):∃k,aB cfg k 9 [enV x0] []=some (.bool true,[]):=by
 obtain⟨K,h⟩:=Hn x0 hx0
 exact⟨K,h K (Nat.le_refl _)⟩

theorem walk (W:World) (x0:En) (hx0:CG x0) (vx0:Value) (rx0:Rep cfg W (lQ W) [] (enV x0) vx0):
  Calls Tryz.prog 9 #[vx0] W fun e w' =>e= .returned (.bool true)∧Kept W w' :=by
 obtain⟨k,hk⟩:=fact x0 hx0
 refine Ez B9 Db hk (fn:=Tryz.f9) rfl rfl (cargs:=[vx0]) rfl (fun i v x hv hx=>?_) (fun v hv=>?_)
 ·match i with
  |0=>simp at hv hx;subst hv;subst hx;exact rx0
  |i+1=>simp at hv
 ·simp at hv
  subst hv;rfl

set_option maxRecDepth 100000 in
theorem contract (H:Type) (enc:TypeId×Value→H) (W:World) (base:Nat) (args:Array Value) (ds gs:List (DataW H)) (before:List MemPlace)
  (hval:∀(j:Nat) t v,Tryz.f9.params[j]? =some t→args[j]? =some v→Value.okWide Tryz.prog W .any base t v)
  (hW:DataW.Whole enc Tryz.prog Tryz.f9.params.toList Rows.envelopeTokensSpec.vars false W args.toList ds gs before) (hk:Rows.uptoSmall H (ds++gs)=true):
  Calls Tryz.prog 9 args W fun e W' =>∃v,e= .returned v∧Rows.envelopeTokensSpec.post enc Tryz.prog Tryz.f9 false true false false W args v W' :=by
 have hW' :=hW
 obtain⟨p,q,hA0,hV,rfl,hfz,hnd⟩:=hW
 have hA:DataW.TrodAll enc Tryz.prog W 0 (fun _=>true) true Tryz.f9.params.toList args.toList ds p:=hA0
 rw[Tryz.params9]at hA hval
 obtain⟨v0,vs0,d0,ds0,p0,q0,hargs0,rfl,rfl,h0,r0⟩:=trodAll_cons hA
 obtain⟨rfl,rfl,rfl⟩:=trodAll_nil r0
 obtain rfl:args= #[v0]:=by cases args;simp_all
 obtain⟨rfl,rfl⟩:=trodVars_none hV
 obtain⟨x0,hrep0,hdat0⟩:=E4 (hval 0 44 v0 rfl rfl) h0
 have hback0:=trod_back (by kernel_rfl) (of_decide_eq_true (by kernel_rfl)) h0
 clear hA0
 simp only[List.append_nil]at hW' hk
 have hkb:=of_decide_eq_true hk
 simp only[Rows.uptoBulkAll]at hkb
 have hx0:CG x0:=E3 hdat0 (by omega)
 refine(walk W x0 hx0 v0 hrep0).mono fun e W' ⟨he,hg⟩=>?_
 subst he
 refine⟨_,rfl,vJ (pa:=p0) (pv:=[]) hW' (fun _ _ _=>trodAll_cons_mk (shut_bool Tryz.underlying4 _) trodAll_mk0) (fun sp hsp=>?_) (fun _ _=>rfl) (by simp)
  hg (ok_one (by kernel_rfl) rfl (okWide_bool_mk Tryz.underlying4 _))⟩
 have:=trodAll_cons_mk (hback0 W' hg sp hsp) trodAll_mk0
 simp only[List.append_nil,List.nil_append]at this
 exact this

theorem laid_met (os:Os):laidMet Tryz.prog Rows.envelopeTokensUptoRow.laid ((laidWorld os).forCall (fun _ _=>0) ⟨#[],#[.agg #[.string .empty, .string .empty, .slice none 0 0, .slice none 0 0, .slice none 0 0, .slice none 0 0, .slice none 0 0, .slice none 0 0, .string .empty, .string .empty, .bool false, .bool false, .bool false, .bool false]],[]⟩).memory:=
 laidMet_of_run' 8 (by kernel_rfl) (by kernel_rfl)
theorem reads (os:Os) {H:Type} (enc:TypeId×Value→H):∃places,DataW.whole enc Tryz.prog ((laidWorld os).forCall (fun _ _=>0) ⟨#[],#[.agg #[.string .empty, .string .empty, .slice none 0 0, .slice none 0 0, .slice none 0 0, .slice none 0 0, .slice none 0 0, .slice none 0 0, .string .empty, .string .empty, .bool false, .bool false, .bool false, .bool false]],[]⟩).memory Tryz.f9.params.toList Rows.envelopeTokensSpec.vars false #[Value.agg #[.string .empty, .string .empty, .slice none 0 0, .slice none 0 0, .slice none 0 0, .slice none 0 0, .slice none 0 0, .slice none 0 0, .string .empty, .string .empty, .bool false, .bool false, .bool false, .bool false]].toList 8=some ([.agg [.lit (.string []), .lit (.string []), .agg [.nil, .nil, .nil, .nil, .nil, .nil], .lit (.string []), .lit (.string []), .agg [.lit (.bool false), .lit (.bool false), .lit (.bool false), .lit (.bool false)]]],[],places):=
 ⟨[],by kernel_rfl⟩

set_option maxRecDepth 100000 in
theorem lifted (os:Os) (started:os.Started) (H:Type) (enc:TypeId×Value→H) (F:Stop.Interp):
  ReturnsInHanded {} Tryz.checked os 9 .any ((Rows.OpenSpec.upto Rows.envelopeTokensSpec).preRow enc Tryz.prog Tryz.f9 Rows.envelopeTokensUptoRow.domain false Rows.envelopeTokensUptoRow.laid) (((Rows.OpenSpec.upto Rows.envelopeTokensSpec).at F).post enc Tryz.prog Tryz.f9 false true false false):=by
 obtain⟨places,hx⟩:=reads os enc
 refine returnsInHanded_of_row (C:=Tryz.checked) (s:=Rows.OpenSpec.upto Rows.envelopeTokensSpec) own started (by kernel_rfl) Tryz.func9
  (witness_row_at (enc:=enc) (C:=Tryz.checked) false (laidWorld os) #[.agg #[.string .empty, .string .empty, .slice none 0 0, .slice none 0 0, .slice none 0 0, .slice none 0 0, .slice none 0 0, .slice none 0 0, .string .empty, .string .empty, .bool false, .bool false, .bool false, .bool false]] rfl (by kernel_rfl) (by kernel_rfl) (by kernel_rfl)
   (OpenSpec.preRow_of_cond 8 hx (by kernel_rfl) (fun k hk=>by cases hk;kernel_rfl) (by kernel_rfl) (laid_met os))) ?_
 intro W base args ds gs before hval hW _ hcond hz hL _ _
 exact contract H enc W base args ds gs before hval hW (hcond _ rfl)

theorem said:Rows.EnvelopeTokensUptoSaid:=
 OpenClaim.holds_of_cond 9 Tryz.f9 rfl rfl rfl rfl rfl rfl rfl ⟨rfl,rfl,rfl,rfl,rfl⟩ rfl rfl rfl rfl rfl (by kernel_rfl) Tryz.func9 (by kernel_rfl)
  (of_decide_eq_true (by kernel_rfl)) (by unfold Func.isWrapper;first|(rw[if_pos (by decide+kernel)];kernel_rfl)|(rw[if_neg (by decide+kernel)];exact⟨rfl,rfl⟩))
  (fun os started H enc _ F=>by rw[OpenClaim.pre_eq_preRow];exact lifted os started H enc F)

theorem plain (f : FuncId) (fn : Func) (hf : Tryz.pinned.checked.prog.funcNamed "letterbox/letterboxlaw19.EnvelopeTokens" = some f) (hfn : Tryz.pinned.checked.prog.funcs[f]? = some fn) :
  true=Tryz.pinned.checked.prog.looks []∧∀(j:Nat) t,fn.params[j]? =some t→Tryz.pinned.checked.prog.wantsStandIn t=false:=by
 obtain rfl : f = 9 := Option.some.inj ((show Tryz.prog.funcNamed "letterbox/letterboxlaw19.EnvelopeTokens" = some 9 by kernel_rfl).symm.trans hf) |>.symm
 obtain rfl:fn=Tryz.f9:=(Option.some.inj (Tryz.func9.symm.trans hfn)).symm
 refine⟨by kernel_rfl,fun j t ht=>?_⟩
 rw[Tryz.params9]at ht
 obtain rfl:t=44:=by simpa using Array.mem_of_getElem? ht
 exact(show Tryz.prog.wantsStandIn 44=false by kernel_rfl)

theorem card:Rows.EnvelopeTokensUptoCardSaid:=
 Claim7.holds_tied_plain_at .later [] _ _ _ _ said (fun _ h=>by cases h) (by kernel_rfl) (fun _ h=>by cases h) envelopeTokensUpto_row_tie rfl ⟨rfl,rfl⟩ (by kernel_rfl) rfl plain (by kernel_rfl)
end Go.Proofs.YtdoaoaicdimbeaaGreatDoor.envelopeTokensUpto
