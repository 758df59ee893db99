/- The law EnvelopePlain is true of every input: an envelope has the field's texts as they stand; a sender that isn't told is who it is from. -/
import Derived.Test.YtdoaoaicdimbeaaGreatDoorPkF
set_option linter.all false
set_option linter.unusedVariables false
set_option linter.unusedSimpArgs false
namespace Go.Proofs.YtdoaoaicdimbeaaGreatDoor.envelopePlain
open Go.ChangeShapes Go.WideShapes Go.ChangeAt Go.RowKit Go.Ev
open Go.ChangeMaps (open_string shut_string)

theorem fact (x0:List UInt8) (x1:List UInt8) (x2:Bool):∃k,aA cfg k 4 [.str x0, .str x1, .bool x2] []=some (.bool true,[]):=by
 obtain⟨K,h⟩:=Pq x0 x1 x2
 exact⟨K,h K (Nat.le_refl _)⟩

theorem walk (W:World) (x0:ByteArray) (x1:ByteArray) (x2:Bool):
  Calls Tryz.prog 4 #[.string x0, .string x1, .bool x2] W fun e w' =>e= .returned (.bool true)∧Kept W w' :=by
 obtain⟨k,hk⟩:=fact x0.data.toList x1.data.toList x2
 refine J4 Gq Io hk (fn:=Tryz.f4) rfl rfl (cargs:=[.string x0, .string x1, .bool x2]) rfl (fun i v x hv hx=>?_) (fun v hv=>?_)
 ·match i with
  |0=>simp at hv hx;subst hv;subst hx;simpa using Rep.str x0.data.toList
  |1=>simp at hv hx;subst hv;subst hx;simpa using Rep.str x1.data.toList
  |2=>simp at hv hx;subst hv;subst hx;exact .bool _
  |i+3=>simp at hv
 ·simp at hv
  rcases hv with rfl|rfl|rfl<;>rfl

set_option maxRecDepth 100000 in
theorem contract (H:Type) (enc:TypeId×Value→H) (W:World) (base:Nat) (args:Array Value) (ds gs:List (DataW H)) (before:List MemPlace)
  (hval:∀(j:Nat) t v,Tryz.f4.params[j]? =some t→args[j]? =some v→Value.okWide Tryz.prog W .any base t v)
  (hW:DataW.Whole enc Tryz.prog Tryz.f4.params.toList Rows.envelopePlainSpec.vars false W args.toList ds gs before):
  Calls Tryz.prog 4 args W fun e W' =>∃v,e= .returned v∧Rows.envelopePlainSpec.post enc Tryz.prog Tryz.f4 false true false false W args v W' :=by
 have hW' :=hW
 obtain⟨p,q,hA0,hV,rfl,hfz,hnd⟩:=hW
 have hA:DataW.TrodAll enc Tryz.prog W 0 (fun _=>true) true Tryz.f4.params.toList args.toList ds p:=hA0
 rw[Tryz.params4]at hA hval
 obtain⟨v0,vs0,d0,ds0,p0,q0,hargs0,rfl,rfl,h0,r0⟩:=trodAll_cons hA
 obtain⟨v1,vs1,d1,ds1,p1,q1,hargs1,rfl,rfl,h1,r1⟩:=trodAll_cons r0
 obtain⟨v2,vs2,d2,ds2,p2,q2,hargs2,rfl,rfl,h2,r2⟩:=trodAll_cons r1
 obtain⟨rfl,rfl,rfl⟩:=trodAll_nil r2
 obtain rfl:args= #[v0,v1,v2]:=by cases args;simp_all
 obtain⟨rfl,rfl⟩:=trodVars_none hV
 obtain⟨x0,rfl,rfl,rfl,hm0⟩:=open_string Tryz.underlying9 (hval 0 9 v0 rfl rfl) h0
 obtain⟨x1,rfl,rfl,rfl,hm1⟩:=open_string Tryz.underlying9 (hval 1 9 v1 rfl rfl) h1
 obtain⟨x2,rfl,rfl,rfl⟩:=open_bool Tryz.underlying4 (hval 2 4 v2 rfl rfl) h2
 clear hA0
 simp only[List.append_nil]at hW'
 refine(walk W x0 x1 x2).mono fun e W' ⟨he,hg⟩=>?_
 subst he
 refine⟨_,rfl,Bn (pa:=[]) (pv:=[]) hW' (fun _ _ _=>trodAll_cons_mk (shut_bool Tryz.underlying4 _) trodAll_mk0) (fun _ _=>trodAll_cons_mk (shut_string Tryz.underlying9 hm0) (trodAll_cons_mk (shut_string Tryz.underlying9 hm1) (trodAll_cons_mk (shut_bool Tryz.underlying4 x2) trodAll_mk0))) (fun _ _=>rfl) rfl
  hg (ok_one (by kernel_rfl) rfl (okWide_bool_mk Tryz.underlying4 _))⟩

theorem laid_met (os:Os):laidMet Tryz.prog Rows.envelopePlainRow.laid ((laidWorld os).forCall (fun _ _=>0) ⟨#[],#[.string .empty, .string .empty, .bool false],[]⟩).memory:=
 laidMet_of_run' 8 (by kernel_rfl) (by kernel_rfl)
theorem reads (os:Os) {H:Type} (enc:TypeId×Value→H):∃places,DataW.whole enc Tryz.prog ((laidWorld os).forCall (fun _ _=>0) ⟨#[],#[.string .empty, .string .empty, .bool false],[]⟩).memory Tryz.f4.params.toList Rows.envelopePlainSpec.vars false #[Value.string .empty,Value.string .empty,Value.bool false].toList 8=some ([.lit (.string []), .lit (.string []), .lit (.bool false)],[],places):=
 ⟨[],by kernel_rfl⟩

set_option maxRecDepth 100000 in
theorem lifted (os:Os) (started:os.Started) (H:Type) (enc:TypeId×Value→H) (F:Stop.Interp):
  ReturnsInHanded {} Tryz.checked os 4 .any ((OpenSpec.ofChange Rows.envelopePlainSpec).preRow enc Tryz.prog Tryz.f4 Rows.envelopePlainRow.domain false Rows.envelopePlainRow.laid) (((OpenSpec.ofChange Rows.envelopePlainSpec).at F).post enc Tryz.prog Tryz.f4 false true false false):=by
 obtain⟨places,hx⟩:=reads os enc
 refine returnsInHanded_of_row (C:=Tryz.checked) (s:=OpenSpec.ofChange Rows.envelopePlainSpec) own started (by kernel_rfl) Tryz.func4
  (witness_row_at (enc:=enc) (C:=Tryz.checked) false (laidWorld os) #[.string .empty, .string .empty, .bool false] rfl (by kernel_rfl) (by kernel_rfl) (by kernel_rfl)
   (OpenSpec.preRow_of_cond 8 hx (by kernel_rfl) (fun k hk=>by cases hk) (by kernel_rfl) (laid_met os))) ?_
 intro W base args ds gs before hval hW _ _ hz hL _ _
 exact contract H enc W base args ds gs before hval hW

theorem said:Rows.EnvelopePlainSaid:=
 OpenClaim.holds_of_cond 4 Tryz.f4 rfl rfl rfl rfl rfl rfl rfl ⟨rfl,rfl,rfl,rfl,rfl⟩ rfl rfl rfl rfl rfl (by kernel_rfl) Tryz.func4 (by kernel_rfl)
  (of_decide_eq_true (by kernel_rfl)) (by unfold Func.isWrapper;first|(rw[if_pos (by decide+kernel)];kernel_rfl)|(rw[if_neg (by decide+kernel)];exact⟨rfl,rfl⟩))
  (fun os started H enc _ F=>by rw[OpenClaim.pre_eq_preRow];exact lifted os started H enc F)

theorem plain (f : FuncId) (fn : Func) (hf : Tryz.pinned.checked.prog.funcNamed "letterbox/letterboxlaw19.EnvelopePlain" = some f) (hfn : Tryz.pinned.checked.prog.funcs[f]? = some fn) :
  true=Tryz.pinned.checked.prog.looks []∧∀(j:Nat) t,fn.params[j]? =some t→Tryz.pinned.checked.prog.wantsStandIn t=false:=by
 obtain rfl : f = 4 := Option.some.inj ((show Tryz.prog.funcNamed "letterbox/letterboxlaw19.EnvelopePlain" = some 4 by kernel_rfl).symm.trans hf) |>.symm
 obtain rfl:fn=Tryz.f4:=(Option.some.inj (Tryz.func4.symm.trans hfn)).symm
 refine⟨by kernel_rfl,fun j t ht=>?_⟩
 rw[Tryz.params4]at ht
 obtain rfl|rfl|rfl:t=9∨t=9∨t=4:=by simpa using Array.mem_of_getElem? ht
 ·exact(show Tryz.prog.wantsStandIn 9=false by kernel_rfl)
 ·exact(show Tryz.prog.wantsStandIn 9=false by kernel_rfl)
 ·exact(show Tryz.prog.wantsStandIn 4=false by kernel_rfl)

theorem card:Rows.EnvelopePlainCardSaid:=
 Claim7.holds_tied_plain_at .later [] _ _ _ _ said (fun _ h=>by cases h) (by kernel_rfl) (fun _ h=>by cases h) envelopePlain_row_tie rfl ⟨rfl,rfl⟩ (by kernel_rfl) rfl plain (by kernel_rfl)
end Go.Proofs.YtdoaoaicdimbeaaGreatDoor.envelopePlain
