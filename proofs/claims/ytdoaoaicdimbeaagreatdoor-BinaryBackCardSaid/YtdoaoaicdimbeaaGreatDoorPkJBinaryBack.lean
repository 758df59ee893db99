/- The law BinaryBack is true of every input: bytes that were encoded are told as they were, by base64 in lines of any width, by quoted-printable, or as they stand; broken ones, and encodings that aren't known, are refused. -/
import Derived.Test.YtdoaoaicdimbeaaGreatDoorPkF
set_option linter.all false
set_option linter.unusedVariables false
set_option linter.unusedSimpArgs false
namespace Go.Proofs.YtdoaoaicdimbeaaGreatDoor.binaryBack
open Go.ChangeShapes Go.WideShapes Go.ChangeAt Go.RowKit Go.Ev
open Go.ChangeMaps (open_string shut_string)

theorem fact (x0:List UInt8) (x1:Int) (hx1:(0:Int)≤x1∧x1<256) (x2:Int) (hx2:(0:Int)≤x2∧x2<256):∃k,aA cfg k 6 [.lst 5 false (ofBytes x0), .int .u8 x1, .int .u8 x2] []=some (.bool true,[]):=by
 obtain⟨K,h⟩:=Rl x0 x1 hx1 x2 hx2
 exact⟨K,h K (Nat.le_refl _)⟩

theorem walk (W:World) (hgl:∀g k zs,cfg.glob g=some (k,zs)→qV W (lW W) g 0 (zs.map (Value.int k))) (x0:List UInt8) (vx0:Value) (rx0:Rep cfg W (lW W) [] (.lst 5 false (ofBytes x0)) vx0) (x1:Int) (hx1:(0:Int)≤x1∧x1<256) (x2:Int) (hx2:(0:Int)≤x2∧x2<256):
  Calls Tryz.prog 6 #[vx0, .int .u8 x1, .int .u8 x2] W fun e w' =>e= .returned (.bool true)∧Kept W w' :=by
 obtain⟨k,hk⟩:=fact x0 x1 hx1 x2 hx2
 refine Lz Hg JH hk (fn:=Tryz.f6) rfl rfl (cargs:=[vx0, .int .u8 x1, .int .u8 x2]) rfl (fun i v x hv hx=>?_) (fun v hv=>?_) hgl
 ·match i with
  |0=>simp at hv hx;subst hv;subst hx;exact rx0
  |1=>simp at hv hx;subst hv;subst hx;exact .int _ _
  |2=>simp at hv hx;subst hv;subst hx;exact .int _ _
  |i+3=>simp at hv
 ·simp at hv
  rcases hv with rfl|rfl|rfl<;>rfl

set_option maxRecDepth 100000 in
theorem contract (H:Type) (enc:TypeId×Value→H) (W:World) (base:Nat) (args:Array Value) (ds gs:List (DataW H)) (before:List MemPlace)
  (hval:∀(j:Nat) t v,Tryz.f6.params[j]? =some t→args[j]? =some v→Value.okWide Tryz.prog W .any base t v)
  (hW:DataW.Whole enc Tryz.prog Tryz.f6.params.toList Rows.binaryBackSpec.vars false W args.toList ds gs before) (hL:laidMetH Tryz.prog Rows.binaryBackRow.laid W):
  Calls Tryz.prog 6 args W fun e W' =>∃v,e= .returned v∧Rows.binaryBackSpec.post enc Tryz.prog Tryz.f6 false true false false W args v W' :=by
 have hW' :=hW
 obtain⟨p,q,hA0,hV,rfl,hfz,hnd⟩:=hW
 have hA:DataW.TrodAll enc Tryz.prog W 0 (fun _=>true) true Tryz.f6.params.toList args.toList ds p:=hA0
 rw[Tryz.params6]at hA hval
 obtain⟨v0,vs0,d0,ds0,p0,q0,hargs0,rfl,rfl,h0,r0⟩:=trodAll_cons hA
 obtain⟨v1,vs1,d1,ds1,p1,q1,hargs1,rfl,rfl,h1,r1⟩:=trodAll_cons r0
 obtain⟨v2,vs2,d2,ds2,p2,q2,hargs2,rfl,rfl,h2,r2⟩:=trodAll_cons r1
 obtain⟨rfl,rfl,rfl⟩:=trodAll_nil r2
 obtain rfl:args= #[v0,v1,v2]:=by cases args;simp_all
 obtain⟨rfl,rfl⟩:=trodVars_none hV
 obtain⟨x0,hrep0,hback0⟩:=Jh (hval 0 40 v0 rfl rfl) h0
 obtain⟨x1,rfl,rfl,rfl,hw1⟩:=open_int Tryz.underlying5 (hval 1 5 v1 rfl rfl) h1
 have hb1:=bounds_u8 hw1
 obtain⟨x2,rfl,rfl,rfl,hw2⟩:=open_int Tryz.underlying5 (hval 2 5 v2 rfl rfl) h2
 have hb2:=bounds_u8 hw2
 clear hA0
 simp only[List.append_nil]at hW'
 refine(walk W (KJ hL) x0 v0 hrep0 x1 (by omega) x2 (by omega)).mono fun e W' ⟨he,hg⟩=>?_
 subst he
 refine⟨_,rfl,BR (pa:=p0) (pv:=[]) hW' (fun _ _ _=>trodAll_cons_mk (shut_bool Tryz.underlying4 _) trodAll_mk0) (fun sp hsp=>?_) (fun _ _=>rfl) (by simp)
  hg (ok_one (by kernel_rfl) rfl (okWide_bool_mk Tryz.underlying4 _))⟩
 have:=trodAll_cons_mk (hback0 W' hg sp hsp) (trodAll_cons_mk (shut_int (enc:=enc) (w:=W') (base:=0) (spare:=sp) (held:=true) Tryz.underlying5 hw1) (trodAll_cons_mk (shut_int (enc:=enc) (w:=W') (base:=0) (spare:=sp) (held:=true) Tryz.underlying5 hw2) trodAll_mk0))
 simp only[List.append_nil,List.nil_append]at this
 exact this

theorem laid_met (os:Os):laidMet Tryz.prog Rows.binaryBackRow.laid ((laidWorld os).forCall (fun _ _=>0) ⟨#[],#[.slice none 0 0, .int .u8 0, .int .u8 0],[]⟩).memory:=
 laidMet_of_run' 8 (by kernel_rfl) (by kernel_rfl)
theorem reads (os:Os) {H:Type} (enc:TypeId×Value→H):∃places,DataW.whole enc Tryz.prog ((laidWorld os).forCall (fun _ _=>0) ⟨#[],#[.slice none 0 0, .int .u8 0, .int .u8 0],[]⟩).memory Tryz.f6.params.toList Rows.binaryBackSpec.vars false #[Value.slice none 0 0,Value.int .u8 0,Value.int .u8 0].toList 8=some ([.nil, .lit (.int .u8 0), .lit (.int .u8 0)],[],places):=
 ⟨[],by kernel_rfl⟩

set_option maxRecDepth 100000 in
theorem lifted (os:Os) (started:os.Started) (H:Type) (enc:TypeId×Value→H) (F:Stop.Interp):
  ReturnsInHanded {} Tryz.checked os 6 .any ((OpenSpec.ofChange Rows.binaryBackSpec).preRow enc Tryz.prog Tryz.f6 Rows.binaryBackRow.domain false Rows.binaryBackRow.laid) (((OpenSpec.ofChange Rows.binaryBackSpec).at F).post enc Tryz.prog Tryz.f6 false true false false):=by
 obtain⟨places,hx⟩:=reads os enc
 refine returnsInHanded_of_row (C:=Tryz.checked) (s:=OpenSpec.ofChange Rows.binaryBackSpec) own started (by kernel_rfl) Tryz.func6
  (witness_row_at (enc:=enc) (C:=Tryz.checked) false (laidWorld os) #[.slice none 0 0, .int .u8 0, .int .u8 0] rfl (by kernel_rfl) (by kernel_rfl) (by kernel_rfl)
   (OpenSpec.preRow_of_cond 8 hx (by kernel_rfl) (fun k hk=>by cases hk) (by kernel_rfl) (laid_met os))) ?_
 intro W base args ds gs before hval hW _ _ hz hL _ _
 exact contract H enc W base args ds gs before hval hW hL

theorem said:Rows.BinaryBackSaid:=
 OpenClaim.holds_of_cond 6 Tryz.f6 rfl rfl rfl rfl rfl rfl rfl ⟨rfl,rfl,rfl,rfl,rfl⟩ rfl rfl rfl rfl rfl (by kernel_rfl) Tryz.func6 (by kernel_rfl)
  (of_decide_eq_true (by kernel_rfl)) (by unfold Func.isWrapper;first|(rw[if_pos (by decide+kernel)];kernel_rfl)|(rw[if_neg (by decide+kernel)];exact⟨rfl,rfl⟩))
  (fun os started H enc _ F=>by rw[OpenClaim.pre_eq_preRow];exact lifted os started H enc F)

theorem plain (f : FuncId) (fn : Func) (hf : Tryz.pinned.checked.prog.funcNamed "letterbox/letterboxlaw17.BinaryBack" = some f) (hfn : Tryz.pinned.checked.prog.funcs[f]? = some fn) :
  true=Tryz.pinned.checked.prog.looks []∧∀(j:Nat) t,fn.params[j]? =some t→Tryz.pinned.checked.prog.wantsStandIn t=false:=by
 obtain rfl : f = 6 := Option.some.inj ((show Tryz.prog.funcNamed "letterbox/letterboxlaw17.BinaryBack" = some 6 by kernel_rfl).symm.trans hf) |>.symm
 obtain rfl:fn=Tryz.f6:=(Option.some.inj (Tryz.func6.symm.trans hfn)).symm
 refine⟨by kernel_rfl,fun j t ht=>?_⟩
 rw[Tryz.params6]at ht
 obtain rfl|rfl|rfl:t=40∨t=5∨t=5:=by simpa using Array.mem_of_getElem? ht
 ·exact(show Tryz.prog.wantsStandIn 40=false by kernel_rfl)
 ·exact(show Tryz.prog.wantsStandIn 5=false by kernel_rfl)
 ·exact(show Tryz.prog.wantsStandIn 5=false by kernel_rfl)

theorem card:Rows.BinaryBackCardSaid:=
 Claim7.holds_tied_plain_at .later [] _ _ _ _ said (fun _ h=>by cases h) (by kernel_rfl) (fun _ h=>by cases h) binaryBack_row_tie rfl ⟨rfl,rfl⟩ (by kernel_rfl) rfl plain (by kernel_rfl)
end Go.Proofs.YtdoaoaicdimbeaaGreatDoor.binaryBack
