/- Lemmas for the claim, merged: the plain reading of the program's functions, its soundness, and what they compute. -/
import Derived.Test.YtdoaoaicdimbeaaGreatDoorPkC
import Derived.Test.YtdoaoaicdimbeaaGreatDoorProg
import Derived.Lib.Split
import Derived.Lib.Walk
import Derived.Lib.Strings
import Derived.Lib.Bytealg
import Derived.Lib.CutLaws
import Derived.Lib.ConvBytes
import Derived.Laws.Strings3
import Derived.WalkKit
import Derived.Deep.OwnRows
import Derived.Deep.LoopGhost
import Derived.Deep.Light
import Derived.RangeFuncGives
import Derived.RangeFuncBox
import Derived.RangeFuncLeaves
import Derived.Shelf.Abstract
import Derived.OwnWalkIn
import Derived.TacticsInMore
import Derived.LoopNIn
import Derived.LoopIn
import Derived.Maps.RangeWalk
import Derived.Lib.IndexLaws
import Derived.Shelf.RegionOpenPlain
import Derived.Lib.Slices
import Derived.Lib.Builder
import Derived.Lib.AppendStr
import Derived.Lib.UnsafeStr
import Derived.Laws.Externs
import Derived.Laws.BitsLemmas
import Derived.Lib.SliceRun
import Derived.Shelf.Strings.OnBuilder
import Derived.Test.YtdoaoaicdimbeaaGreatDoorCards
import Derived.Test.YtdoaoaicdimbeaaGreatDoorTie
import Derived.ProofKit
import Derived.OpenShut
import Derived.Deep.DeepHandedRow
import Derived.IntWalk
import Derived.Laws.BitsAllLaws
import Derived.KernelRfl
set_option linter.all false
set_option linter.unusedVariables false
set_option linter.unusedSimpArgs false
section
namespace Go.Proofs.YtdoaoaicdimbeaaGreatDoor
open Go.RowKit
def lR (c:Int):Int:=if 65≤c∧c≤90 then c+32 else c
set_option maxHeartbeats 1000000 in
theorem lower_c (c:Int) (h:0≤c∧c<256) (w:World):Calls Tryz.prog 111 #[.int .u8 c] w fun e w' =>e= .returned (.int .u8 (lR c))∧w' =w:=by
 by_cases h1:65≤c
 ·by_cases h2:c≤90
  ·have e:lR c=c - 65+97:=by unfold lR;rw[if_pos ⟨h1,h2⟩];omega
   rw[e]
   go_enter Tryz.func111,Tryz.ntmps111
   go_wp2
   go_ret
   exact⟨rfl,rfl⟩
  ·have e:lR c=c:=by unfold lR;rw[if_neg (by omega)]
   rw[e]
   go_enter Tryz.func111,Tryz.ntmps111
   go_wp2
   go_ret
   exact⟨rfl,rfl⟩
 ·have e:lR c=c:=by unfold lR;rw[if_neg (by omega)]
  rw[e]
  go_enter Tryz.func111,Tryz.ntmps111
  go_wp2
  go_ret
  exact⟨rfl,rfl⟩
set_option maxRecDepth 100000 in
set_option maxHeartbeats 1000000 in
theorem qG (s:ByteArray) (c:Int) (w:World):Calls Tryz.prog 122 #[.string s, .int .u8 c] w fun e w' =>e= .returned (.int .i64 (Lib.indexByte s.data.toList c.toNat.toUInt8))∧w' =w:=by
 go_enter Tryz.func122,Tryz.ntmps122
 go_wp2
 rw[run_callFunc_extern Tryz.func146 (by kernel_rfl) (by kernel_rfl) (by kernel_rfl) (e:=Extern.BytealgIndexByte.indexByte) (by kernel_rfl),Lib.run_indexByteString]
 simp only[Result.andThen]
 rw[Oper.upon_value]
 go_wp2
 go_ret
 exact⟨rfl,rfl⟩
set_option maxHeartbeats 1000000 in
theorem vK (s:ByteArray) (c:Int) (w:World):Calls Tryz.prog 89 #[.string s, .int .u8 c] w fun e w' =>e= .returned (.int .i64 (Lib.indexByte s.data.toList c.toNat.toUInt8))∧w' =w:=by
 go_enter Tryz.func89,Tryz.ntmps89
 go_wp2_with (first|(go_at_call 122;refine(qG _ _ _).mono ?_;rintro e w' ⟨rfl,hw⟩;rw[hw]))
 go_ret
 exact⟨rfl,rfl⟩
abbrev at1 (s:ByteArray) (b:UInt8):Int:=Lib.indexByte s.data.toList b
set_option maxHeartbeats 1000000 in
theorem Ap (s:ByteArray) (b:UInt8) (w:World):Calls Tryz.prog 168 #[.string s, .string ⟨#[b]⟩] w fun e w' =>e= .returned (.int .i64 (at1 s b))∧w' =w:=by
 go_enter Tryz.func168,Tryz.ntmps168
 go_wp2_with (first|(go_at_call 122;refine(qG _ _ _).mono ?_;rintro e w' ⟨rfl,hw⟩;rw[hw]))
 ·have h:([b]==s.toList)=true:=by assumption
  go_ret
  refine⟨?_,rfl⟩
  have e:s.data.toList=[b]:=by rw[←Lib.toList_data];exact(beq_iff_eq.1 h).symm
  unfold at1
  rw[e]
  simp[Lib.indexByte]
 ·go_ret
  exact⟨rfl,rfl⟩
set_option maxHeartbeats 1000000 in
theorem BW (s:ByteArray) (b:UInt8) (w:World):Calls Tryz.prog 179 #[.string s, .string ⟨#[b]⟩] w fun e w' =>e= .returned (.int .i64 (at1 s b))∧w' =w:=by
 go_enter Tryz.func179,Tryz.ntmps179
 go_wp2_with (first|(go_at_call 168;refine(Ap _ _ _).mono ?_;rintro e w' ⟨rfl,hw⟩;rw[hw]))
 go_ret
 exact⟨rfl,rfl⟩
theorem info9:(Tryz.prog.info? 9).map (fun i=>(i.zero,i.size,i.bytes))=some (some (.string ByteArray.empty),1,16):=by kernel_rfl
theorem nP (b:UInt8):∀l:List UInt8,Lib.index l [b]=Lib.indexByte l b
 |[]=>rfl
 |x::l=>by
  unfold Lib.index Lib.indexByte
  rw[nP b l]
  by_cases h:x=b
  ·simp[h]
  ·simp[h,Ne.symm h]
set_option maxHeartbeats 4000000 in
set_option maxRecDepth 1000000 in
theorem zL (s:ByteArray) (b:UInt8) (n:Int) (N:Nat) (w:World) (hs:s.size<4294967281) (hn0:0<n) (hn63:n≤9223372036854775807) (hN:(N:Int)=min n ((s.size:Int)+1)):
  Calls Tryz.prog 175 #[.string s, .string ⟨#[b]⟩, .int .i64 0, .int .i64 n] w fun e w' =>
   e= .returned (.slice (some ⟨w.heap.size,0,none⟩) (Lib.splitB ⟨#[b]⟩ 0 (N - 1) s).length N)∧w' =w.alloc (.cells (Lib.cellsOf (Lib.splitB ⟨#[b]⟩ 0 (N - 1) s) N) 9):=by
 have hI:∀(x:ByteArray) (c:Array Value),Calls Tryz.prog 179 #[.string x, .string ⟨#[b]⟩] (w.alloc (.cells c 9)) fun e w' =>e= .returned (.int .i64 (Lib.indexB x ⟨#[b]⟩))∧w' =w.alloc (.cells c 9):=by
  intro x c
  have:=BW x b (w.alloc (.cells c 9))
  have e:Lib.indexB x ⟨#[b]⟩=at1 x b:=nP b _
  rw[e];exact this
 have hne:(n==0)=false:=beq_eq_false_iff_ne.2 (by omega)
 have eN' :min n ((s.size:Int)+1)=(N:Int):=hN.symm
 have hneg:¬n<0:=by omega
 have hNs:(N:Int)≤(s.size:Int)+1:=by rw[←eN'];exact Int.min_le_right _ _
 have hN1:(1:Int)≤(N:Int):=by rw[←eN'];exact Int.le_min.2 ⟨by omega,by omega⟩
 have hmk:=run_make_row' (P:=Tryz.prog) 53 9 (.string ByteArray.empty) 16 Tryz.underlying53 info9 rfl .i64 .i64 N (by omega) (by omega)
 clear hN
 go_enter Tryz.func175,Tryz.ntmps175
 go_wp2
 clear hmk
 go_loopg [0,10] (N - 1) (fun g s0 s10 wr=>∃(done:List ByteArray) (rest:ByteArray),s0= .string rest∧s10= .int .i64 done.length∧done.length≤N - 1∧g=N - 1 - done.length∧rest.size≤s.size∧
  wr=w.alloc (.cells (Lib.cellsOf done N) 9)∧done++Lib.splitB ⟨#[b]⟩ 0 (N - 1 - done.length) rest=Lib.splitB ⟨#[b]⟩ 0 (N - 1) s)
 case atStart=>exact⟨[],s,rfl,rfl,Nat.zero_le _,rfl,Nat.le_refl _,by rw[Lib.cellsOf_nil],rfl⟩
 case round=>
  obtain⟨done,rest,rfl,rfl,hd,rfl,hrs,rfl,hsp⟩:=hrel
  have hnext:(Lib.cellsOf done N)[done.length]? =some (.string ByteArray.empty):=Lib.cellsOf_next (by omega)
  have HS:Aside (done++Lib.splitB ⟨#[b]⟩ 0 (N - 1 - done.length) rest=Lib.splitB ⟨#[b]⟩ 0 (N - 1) s):=hsp
  clear hsp
  have fin:Lib.splitB ⟨#[b]⟩ 0 (N - 1 - done.length) rest=[rest]→(Lib.splitB ⟨#[b]⟩ 0 (N - 1) s).length=done.length+1∧(Lib.cellsOf done N).setIfInBounds done.length (.string rest)=Lib.cellsOf (Lib.splitB ⟨#[b]⟩ 0 (N - 1) s) N:=fun h=>by
   have e:=HS.out
   rw[h]at e
   rw[←e]
   exact⟨by simp,Lib.cellsOf_set (by omega) rest⟩
  by_cases hlt:done.length<N - 1
  ·have hltz:((done.length:Nat):Int)<(N:Int) - 1:=by omega
   rcases Lib.indexB_cases rest ⟨#[b]⟩with hix|⟨i,hix,hroom⟩
   ·go_wp2_with (first|(go_at_call 179;refine(hI rest _).mono ?_;rintro e w' ⟨rfl,hw⟩;rw[hw,hix]))
    go_ret
    obtain⟨f1,f2⟩:=fin (Lib.splitB_miss ⟨#[b]⟩ 0 _ rest hix)
    rw[f1,←f2]
    exact⟨by first|rfl|(congr 2<;>omega),rfl⟩
   ·have hroom:i+1≤rest.size:=hroom
    have c0:¬((i:Int)<0):=by omega
    have c1:(0:Int)≤↑i+0:=by omega
    have c2:(↑i+0:Int)≤↑rest.size:=by omega
    have c1' :(0:Int)≤↑i:=by omega
    have c2' :(↑i:Int)≤↑rest.size:=by omega
    have c3:(0:Int)≤↑i+1:=by omega
    have c4:(↑i+1:Int)≤↑rest.size:=by omega
    go_wp2_with (first|(go_at_call 179;refine(hI rest _).mono ?_;rintro e w' ⟨rfl,hw⟩;rw[hw,hix]))
    go_roundg (N - 1 - (done.length+1))
    case measure=>go_light;omega
    case rel=>
     go_light
     refine⟨done++[rest.extract 0 (i+0)],rest.extract (i+1) rest.size,rfl,by simp,by simp;omega,by simp,by rw[ByteArray.size_extract];omega,by rw[←Lib.cellsOf_set (by omega)];try simp,?_⟩
     rw[←HS.out,show N - 1 - done.length=(N - 1 - (done.length+1))+1 by omega,Lib.splitB_hit ⟨#[b]⟩ 0 _ rest i hix]
     simp
     rfl
  ·have hltz:¬(((done.length:Nat):Int)<(N:Int) - 1):=by omega
   go_wp2
   go_ret
   obtain⟨f1,f2⟩:=fin (by rw[show N - 1 - done.length=0 by omega];rfl)
   rw[f1,←f2]
   exact⟨by first|rfl|(congr 2<;>omega),rfl⟩
set_option maxHeartbeats 1000000 in
theorem BX (s:ByteArray) (b:UInt8) (n:Int) (N:Nat) (w:World) (hs:s.size<4294967281) (hn0:0<n) (hn63:n≤9223372036854775807) (hN:(N:Int)=min n ((s.size:Int)+1)):
  Calls Tryz.prog 170 #[.string s, .string ⟨#[b]⟩, .int .i64 n] w fun e w' =>
   e= .returned (.slice (some ⟨w.heap.size,0,none⟩) (Lib.splitB ⟨#[b]⟩ 0 (N - 1) s).length N)∧w' =w.alloc (.cells (Lib.cellsOf (Lib.splitB ⟨#[b]⟩ 0 (N - 1) s) N) 9):=by
 go_enter Tryz.func170,Tryz.ntmps170
 go_wp2_with (first|(go_at_call 175;refine(zL s b n N _ hs hn0 hn63 hN).mono ?_;rintro e w' ⟨rfl,hw⟩;rw[hw]))
 go_ret
 exact⟨rfl,rfl⟩
structure iI (w:World) (s:ByteArray) (k:Nat) (wr:World):Prop where
 size:wr.heap.size=w.heap.size+1
 old:∀b,b<w.heap.size→wr.heap[b]? =w.heap[b]?
 os:wr.os=w.os
 out:wr.output=w.output
 tape:wr.tape=w.tape
 row:∃(cs:Array Value) (fr:Nat×Nat),wr.heap[w.heap.size]? =some (.cells cs 5 fr)∧s.size≤cs.size∧s.size≤fr.1∧
  ∀j,j<s.size→cs[j]? =some (.int .u8 (if j<k then lR (s.data.toList.getD j 0).toNat else(s.data.toList.getD j 0).toNat))
theorem iI.start (w:World) (s:ByteArray):iI w s 0 (Lib.bytesWorld w 5 s):=by
 have hge:=grownCap_ge w s.size 0 5
 have hsz:(Lib.bytesCells w 5 s).size=grownCap w s.size 0 5:=by simp[Lib.bytesCells];omega
 refine⟨Lib.bytesWorld_size w 5 s,fun b hb=>Lib.bytesWorld_at_old w 5 s b hb,?_,?_,?_,_,_,Lib.bytesWorld_at_new w 5 s,by omega,by simp only[];omega,fun j hj=>?_⟩
 iterate 3 (unfold Lib.bytesWorld World.freeze;split<;>rfl)
 have:=Lib.bytesWorld_cell w 5 s j hj
 simp only[World.cell?,Lib.bytesWorld_at_new]at this
 simpa using this
theorem iI.store {w wr:World} {s:ByteArray} {k:Nat} (h:iI w s k wr) (hk:k<s.size):
  iI w s (k+1) (wr.setCell ⟨w.heap.size,k,none⟩ (.int .u8 (lR (s.data.toList.getD k 0).toNat))):=by
 obtain⟨h1,h2,h3,h4,h5,cs,fr,h6,h7,h8,h9⟩:=h
 have hat:(wr.setCell ⟨w.heap.size,k,none⟩ (.int .u8 (lR (s.data.toList.getD k 0).toNat))).heap[w.heap.size]? =some (.cells (cs.setIfInBounds k (.int .u8 (lR (s.data.toList.getD k 0).toNat))) 5 fr):=by
  unfold World.setCell
  rw[Array.getElem?_modify,if_pos rfl,h6]
  rfl
 refine⟨by simp[World.setCell,h1],fun b hb=>?_,h3,h4,h5,_,_,hat,by simpa using h7,h8,fun j hj=>?_⟩
 ·have hne:¬(w.heap.size=b):=by omega
  unfold World.setCell
  rw[Array.getElem?_modify,if_neg hne,h2 b hb]
 ·rw[Array.getElem?_setIfInBounds]
  by_cases hjk:k=j
  ·subst hjk
   rw[if_pos rfl,if_pos (by omega),if_pos (Nat.lt_succ_self _)]
  ·rw[if_neg hjk,h9 j hj]
   by_cases hlt:j<k
   ·rw[if_pos hlt,if_pos (by omega)]
   ·rw[if_neg hlt,if_neg (by omega)]
theorem bytes_foldl:∀(ns:List Int) (s:ByteArray),ns.foldl (fun r n=>r.push (UInt8.ofNat n.toNat)) s=⟨(s.data.toList++ns.map fun n=>UInt8.ofNat n.toNat).toArray⟩
 |[],s=>by simp
 |n::ns,s=>by
  rw[List.foldl_cons,bytes_foldl ns]
  congr 1
  simp[ByteArray.push]
theorem iI.text {w wr:World} {s:ByteArray} (h:iI w s s.size wr) (cap:Nat):
  (convert 40 9 (.slice (some ⟨w.heap.size,0,none⟩) s.size cap)).run Tryz.prog wr= .ok (.string ⟨(s.data.toList.map fun b=>UInt8.ofNat (lR b.toNat).toNat).toArray⟩) wr:=by
 rw[run_convert_bytes_string wr 40 9 5 _ _ _ Tryz.underlying40 Tryz.underlying5 Tryz.underlying9]
 obtain⟨h1,h2,h3,h4,h5,cs,fr,h6,h7,h8,h9⟩:=h
 have hl:s.data.toList.length=s.size:=(Lib.size_eq s).symm
 have hld:=run_loadCells_list (P:=Tryz.prog) wr ⟨w.heap.size,0,none⟩ ((s.data.toList.map fun b=>lR b.toNat).map (Value.int .u8)) (fun j v hj=>by
  have hlt:=(List.getElem?_eq_some_iff.1 hj).1
  simp[hl]at hlt
  have:=h9 j hlt
  rw[if_pos hlt]at this
  rw[Addr.add_lit]
  simp only[World.cell?,Nat.zero_add,h6]
  have hv:v= .int .u8 (lR (s.data.toList.getD j 0).toNat):=by
   simp only[List.getElem?_map]at hj
   rw[List.getElem?_eq_getElem (by omega)]at hj
   simp at hj
   rw[←hj];simp[List.getD,hlt]
  rw[hv];simpa using this)
 have hlen:((s.data.toList.map fun b=>lR b.toNat).map (Value.int .u8)).length=s.size:=by simp[hl]
 rw[hlen]at hld
 rw[run_bytesToString wr _ _ _ _ hld,bytes_foldl]
 simp[Function.comp_def]
set_option maxHeartbeats 1000000 in
theorem EK (s:ByteArray) (w:World) (hs:s.size<4294967281):Calls Tryz.prog 73 #[.string s] w fun e w' =>
  e= .returned (.string ⟨(s.data.toList.map fun b=>UInt8.ofNat (lR b.toNat).toNat).toArray⟩)∧iI w s s.size w' :=by
 have hconv:=Lib.run_convert_string_bytes (P:=Tryz.prog) w 9 40 5 s Tryz.underlying9 Tryz.underlying40 Tryz.underlying5
 go_enter Tryz.func73,Tryz.ntmps73
 go_wp2
 clear hconv
 go_loopg [9] s.size (fun g s9 wr=>∃k:Nat,s9= .int .i64 k∧k≤s.size∧g=s.size - k∧iI w s k wr)
 case atStart=>exact⟨0,rfl,Nat.zero_le _,rfl,iI.start w s⟩
 case round=>
  obtain⟨k,rfl,hk,rfl,hF⟩:=hrel
  by_cases hlt:k<s.size
  ·have hltz:(k:Int)<(s.size:Int):=by omega
   obtain⟨cs,fr,h6,h7,h8,h9⟩:=hF.row
   have hcell:wr.cell? ⟨w.heap.size,k,none⟩=some (.int .u8 (s.data.toList.getD k 0).toNat):=by
    have:=h9 k hlt
    rw[if_neg (Nat.lt_irrefl _)]at this
    simp only[World.cell?,h6];simpa using this
   have hfz:wr.frozen? ⟨w.heap.size,k,none⟩=false:=by
    unfold World.frozen?
    simp only[h6]
    simp;omega
   have hb:0≤((s.data.toList.getD k 0).toNat:Int)∧((s.data.toList.getD k 0).toNat:Int)<256:=⟨by omega,by have:=(s.data.toList.getD k 0).toNat_lt;omega⟩
   obtain⟨x,hx⟩:∃x:Int,x=((s.data.toList.getD k 0).toNat:Int):=⟨_,rfl⟩
   rw[←hx]at hcell hb
   have HF:Aside (iI w s k wr∧x=((s.data.toList.getD k 0).toNat:Int)):=⟨hF,hx⟩
   clear hF h6 h7 h8 h9 hx
   have h33:=lower_c x hb wr
   go_wp2_with (first|(go_at_call 111;refine h33.mono ?_;rintro e w' ⟨rfl,hw⟩;rw[hw]))
   go_roundg (s.size - (k+1))
   case measure=>go_light;omega
   case rel=>
    go_light
    obtain⟨hF,hx⟩:=HF.out
    refine⟨k+1,by push_cast;rfl,by omega,by omega,?_⟩
    rw[hx]
    exact hF.store hlt
  ·have hltz:¬((k:Int)<(s.size:Int)):=by omega
   obtain rfl:k=s.size:=by omega
   have htx:=hF.text (grownCap w s.size 0 5)
   go_wp2
   go_ret
   exact⟨rfl,hF⟩
end Go.Proofs.YtdoaoaicdimbeaaGreatDoor
end
section
namespace Go.Rg
open Go.RowKit Go.Shelf
structure Kept (T:World→Nat→Prop) (W W' :World):Prop where
 size:W.heap.size≤W'.heap.size
 block:∀j,j<W.heap.size→¬T W j→W'.heap[j]? =W.heap[j]?∧¬T W' j
structure Abides (base:World) (J:Nat→World→Prop) (T:World→Nat→Prop):Prop where
 step:∀i W W' row,J i W→W.grownBy W' row→(∀r,row=some r→base.heap.size≤r∧¬T W r)→J i W'∧∀r,T W' r→T W r
 lt:∀i W r,J i W→T W r→r<W.heap.size
 old:∀i W,J i W→Below base.heap.size base W
def BY {α:Type} (P:Program) (l:Nat) (enc:α→Value) (xs:List α) (J:Nat→World→Prop) (Jx:World→Prop) (T:World→Nat→Prop):Prop:=
 ∀i x W,xs[i]? =some x→J i W→YieldAt Fence.wide 0 P l #[enc x] W fun e W' =>
  (e= .returned (.bool true)∧J (i+1) W'∧Kept T W W')∨(e= .returned (.bool false)∧Jx W')
def xK {α:Type} (P:Program) (g:Nat) (lb:Array Value) (enc:α→Value) (xs:List α) (base:World):Prop:=
 ∀(l:Nat) (J:Nat→World→Prop) (Jx:World→Prop) (T:World→Nat→Prop) (W:World),Abides base J T→BY P l enc xs J Jx T→J 0 W→
  CallsIn Fence.wide 1 P g (#[.func (.yield l) #[] #[]]++lb) W fun e W' =>(∃v,e= .returned v)∧(J xs.length W'∨Jx W')
structure C3 (X:Nat→Prop) (base W:World):Prop where
 size:base.heap.size≤W.heap.size
 block:∀b,b<base.heap.size→¬X b→W.heap[b]? =base.heap[b]?
theorem C3.cell {X:Nat→Prop} {base W:World} (h:C3 X base W) {p:Addr} (hp:p.block<base.heap.size) (hx:¬X p.block):W.cell? p=base.cell? p:=World.cell?_of_block (h.block _ hp hx)
structure Aq (X:Nat→Prop) (base:World) (J:Nat→World→Prop) (T:World→Nat→Prop):Prop where
 step:∀i W W' row,J i W→W.grownBy W' row→(∀r,row=some r→base.heap.size≤r∧¬T W r)→J i W'∧∀r,T W' r→T W r
 lt:∀i W r,J i W→T W r→r<W.heap.size
 old:∀i W,J i W→C3 X base W
def sC {α:Type} (X:Nat→Prop) (P:Program) (g:Nat) (lb:Array Value) (enc:α→Value) (xs:List α) (base:World):Prop:=
 ∀(l:Nat) (J:Nat→World→Prop) (Jx:World→Prop) (T:World→Nat→Prop) (W:World),Aq X base J T→BY P l enc xs J Jx T→J 0 W→
  CallsIn Fence.wide 1 P g (#[.func (.yield l) #[] #[]]++lb) W fun e W' =>(∃v,e= .returned v)∧(J xs.length W'∨Jx W')
theorem sC.tells {α:Type} {P:Program} {g:Nat} {lb:Array Value} {enc:α→Value} {xs:List α} {base:World} (h:sC (fun _=>False) P g lb enc xs base):xK P g lb enc xs base:=
 fun l J Jx T W hab hR h0=>h l J Jx T W ⟨hab.step,hab.lt,fun i W h=>⟨(hab.old i W h).size,fun b hb _=>(hab.old i W h).block b hb⟩⟩ hR h0
theorem grownBy_putObj (W:World) (l:Nat) (o:Obj):W.grownBy (W.putObj l o) (some l):=
 ⟨rfl,rfl,rfl,by simp,fun k _ hk=>World.putObj_heap_other (fun e=>hk (by rw[e]))⟩
theorem grownBy_setCell (W:World) (a:Addr) (v:Value):W.grownBy (W.setCell a v) (some a.block):=
 ⟨rfl,rfl,rfl,by simp[World.setCell],fun k _ hk=>Below.heap_setCell _ _ _ k (fun e=>hk (by rw[e]))⟩
theorem ownsRow_ne {W:World} {base:Nat} {e:TypeId} {size:Nat} {v:Value} {k:Nat} {xs:List Value} (h:W.ownsRow base e size v k xs) {j:Nat} {o:Obj} (hj:W.heap[j]? =some o) (hno:∀cur,o≠ .cells cur e (0,0)):
  v.ownBlock=none∨v.ownBlock≠some j:=by
 rcases h.2 with⟨rfl,_⟩|⟨g,cap,cur,rfl,_,hgb,_⟩
 ·exact .inl rfl
 ·refine .inr fun e' =>?_
  have:g=j:=by simpa[Value.ownBlock]using e'
  subst this;rw[hgb]at hj;cases hj;exact hno cur rfl
theorem ownsRow_base {W:World} {base base' :Nat} {e:TypeId} {size:Nat} {v:Value} {k:Nat} {xs:List Value} (h:W.ownsRow base e size v k xs) (hb:base'≤base):W.ownsRow base' e size v k xs:=by
 refine⟨h.1,?_⟩
 rcases h.2 with hn|⟨g,cap,cur,hv,hbg,rest⟩
 ·exact .inl hn
 ·exact .inr ⟨g,cap,cur,hv,Nat.le_trans hb hbg,rest⟩
structure BZ (base:World) (ts te:TypeId) (size:Nat) (rec:Loop) (Bs l D:Nat) (xs:List Value) (n:Nat) (W:World):Prop where
 box:∃v,Boxed W Bs ts v∧W.ownsRow base.heap.size te size v n xs∧(v= .slice none 0 0↔n=0)
 L:W.heap[l]? =some (.loop rec)
 K:W.heap[D]? =some (.deferred (some []))
 below:Below base.heap.size base W
def B0 (ts:TypeId) (Bs l D:Nat) (W:World) (r:Nat):Prop:=r<W.heap.size∧(r=Bs∨r=l∨r=D∨∃v,Boxed W Bs ts v∧v.ownBlock=some r)
theorem xM (base:World) (ts te:TypeId) (size:Nat) (rec:Loop) (Bs l D:Nat) (f:Nat→List Value):Abides base (fun i W=>BZ base ts te size rec Bs l D (f i) i W) (B0 ts Bs l D) where
 step:=fun i W W' row h hg hrow=>by
  obtain⟨v,hv,hr,hn⟩:=h.box
  have hlt:=hv.lt
  have hll:l<W.heap.size:=(Array.getElem?_eq_some_iff.1 h.L).1
  have hKl:D<W.heap.size:=(Array.getElem?_eq_some_iff.1 h.K).1
  have hB:W'.heap[Bs]? =W.heap[Bs]? :=hg.block Bs hlt fun e=>(hrow Bs e.symm).2 ⟨hlt, .inl rfl⟩
  refine⟨⟨⟨v,hB.trans hv,hr.kept hg ?_,hn⟩,(hg.block l hll fun e=>(hrow l e.symm).2 ⟨hll, .inr (.inl rfl)⟩).trans h.L,
   (hg.block D hKl fun e=>(hrow D e.symm).2 ⟨hKl, .inr (.inr (.inl rfl))⟩).trans h.K,h.below.grown hg h.below.size fun k e=>(hrow k e).1⟩,?_⟩
  ·cases hvb:v.ownBlock with
   |none=>exact .inl rfl
   |some g=>
    right
    intro e
    exact(hrow g e.symm).2 ⟨(hr.lt g hvb).2, .inr (.inr (.inr ⟨v,hv,hvb⟩))⟩
  ·rintro r ⟨hr',h1⟩
   have hall:r=Bs∨r=l∨r=D∨v.ownBlock=some r:=by
    rcases h1 with h1|h1|h1|⟨v',hv',h1⟩
    ·exact .inl h1
    ·exact .inr (.inl h1)
    ·exact .inr (.inr (.inl h1))
    ·have:v' =v:=by
      have h2:Boxed W Bs ts v' :=hB.symm.trans hv'
      have h3:=h2.symm.trans hv
      simpa using h3
     subst this
     exact .inr (.inr (.inr h1))
   rcases hall with rfl|rfl|rfl|h1
   ·exact⟨hlt, .inl rfl⟩
   ·exact⟨hll, .inr (.inl rfl)⟩
   ·exact⟨hKl, .inr (.inr (.inl rfl))⟩
   ·exact⟨(hr.lt r h1).2, .inr (.inr (.inr ⟨v,hv,h1⟩))⟩
 lt:=fun i W r _ ht=>ht.1
 old:=fun i W h=>h.below
section
variable {P : Program} (w : World)
theorem vL (base:Nat) (t ty e:TypeId) (i:TypeInfo) (z:Value) (size bytes:Nat) (ht:P.underlying t=some (.slice e)) (hi:P.info? e=some i) (hz:i.zero=some z)
  (hsize:i.size=size) (hby:i.bytes=bytes)
  (v:Value) (n:Nat) (xs:List Value) (hown:w.ownsRow base e size v n xs)
  (a:Addr) (m c:Nat) (news:List Value) (hl:news.length=m*size) (hnews:∀j u,news[j]? =some u→w.cell? (a.add j)=some u) (h1:∀u∈news,u.oneCell' =true)
  (h63:n+m≤maxLen) (hbytes:(n+m)*bytes≤140737488355328) (hm:0<m) (v' :Value) (w' :World)
  (hrun:(Builtin.append_ #[t,t] ty #[v, .slice (some a) m c]).run P w= .ok v' w'):v'.ownBlock=v.ownBlock∨v'.ownBlock=some w.heap.size:=by
 subst hsize
 subst hby
 have hsmall:n+m≤9223372036854775807:=by simp only[maxLen]at h63;omega
 rcases hown.2 with⟨rfl,rfl⟩|⟨g,cap,cur,rfl,hbg,hg,hnc,hcm,hcs,htake⟩
 ·have hx:xs=[]:=List.eq_nil_of_length_eq_zero (by simpa using hown.1)
  subst hx
  have hr:=run_append_nil (P:=P) w t ty e i z ht hi hz a m c news hl hnews (by omega) (by omega) (by have hb:=hbytes;simp only[Nat.zero_add]at hb;omega)
  rw[hr]at hrun
  cases hrun
  exact .inr rfl
 ·by_cases hroom:n+m≤cap
  ·have hfit:n*i.size+news.length≤cur.size:=by rw[hl,hcs,←Nat.add_mul];exact Nat.mul_le_mul_right _ hroom
   have hr:=run_append_room (P:=P) w t ty e i ht hi g n cap cur hg a m c news hl hnews h1 hroom hfit
   rw[hr]at hrun
   cases hrun
   exact .inl rfl
  ·have holds:∀j u,xs[j]? =some u→w.cell? ((⟨g,0,none⟩:Addr).add j)=some u:=hown.cells (g:=g) rfl
   have hr:=run_append_grow (P:=P) w t ty e i z ht hi hz ⟨g,0,none⟩ n cap xs hown.1 holds a m c news hl hnews (by omega) (by omega) (growslice_fits (by omega) hbytes)
   rw[hr]at hrun
   cases hrun
   exact .inr rfl
end
theorem kT {F:Fence} {n:Nat} {P:Program} (w:World) {ops:Array Oper} {rest:List Oper} {o:Oper} {a:Act} {Q:Exit→Act→World→Prop}
  (hg:o.guard=none) (s x:Operand) (t:TypeId) (hop:o.op=Op.call { callee:=Callee.builtin Builtin.append,args:=#[s,x],argTypes:=#[t,t] })
  (base:Nat) (e:TypeId) (i:TypeInfo) (z:Value) (size bytes:Nat) (h1:P.underlying t=some (.slice e)) (h2:P.info? e=some i) (h3:i.zero=some z) (h4:i.size=size) (h5:i.bytes=bytes) (h6:z.cells.size=size) (h7:0<size)
  (v:Value) (k:Nat) (xs:List Value) (hs:a.eval s=v) (hown:w.ownsRow base e size v k xs) (ad:Addr) (m c:Nat) (news:List Value) (hx:a.eval x= .slice (some ad) m c) (hn:news.length=m*size)
  (hm:0<m) (hc:∀j u,news[j]? =some u→w.cell? (ad.add j)=some u) (h1c:∀u∈news,u.oneCell' =true) (b1:k+m≤maxLen) (b2:(k+m)*bytes≤140737488355328) (b3:base≤w.heap.size)
  (hK:∀v' w',w'.ownsRow base e size v' (k+m) (xs++news)→w.grownBy w' v.ownBlock→(v'.ownBlock=v.ownBlock∨v'.ownBlock=some w.heap.size)→wpListIn F n P ops Q rest (a.put o.dst v') w'):
  wpListIn F n P ops Q (o::rest) a w:=by
 refine wpListIn_plain hg fun K hK' =>?_
 obtain⟨v',w',hrun,r1,r2,r3⟩:=run_append_own (P:=P) w base t o.type e i z size bytes h1 h2 h3 h4 h5 h6 h7 v k xs hown ad m c news hn hc h1c b1 b2 b3
 have r4:=vL (P:=P) w base t o.type e i z size bytes h1 h2 h3 h4 h5 v k xs hown ad m c news hn hc h1c b1 b2 hm v' w' hrun
 unfold Oper.wpIn
 refine⟨?_,?_⟩
 ·simp[Oper.about,hop,resolve,Target.leads,Sem.run_pure]
 ·rw[Oper.semAt_plain F _ _ (by rw[hop];intro c hc';cases hc')]
  simp[execOp,hop,resolve,invoke,builtin,hs,hx,hrun,Result.andThen]
  exact hK' _ _ (hK v' w' r1 r2 r4)
end Go.Rg
end
section
namespace Go.Proofs.YtdoaoaicdimbeaaGreatDoor
open Go.RowKit Go.Shelf Go.Rg
attribute [local go_sem] Oper.semAt_some
def fZ (x:Nat×Nat×Nat):Value:= .agg #[.int .i64 x.1, .int .i64 x.2.1, .int .i64 x.2.2]
def pP (x:Nat×Nat×Nat):List Value:=[.int .i64 x.1, .int .i64 x.2.1, .int .i64 x.2.2]
noncomputable def apAssign : Code := (Code.region 2 #[{ dst := some 5, op := Op.alloc 134, type := 0, pos := "iter.go:51", after := #[], guard := none }, { dst := none, op := Op.store 134 (Operand.tmp 5) (Operand.tmp 7), type := 0, pos := "iter.go:51", after := #[{ on := 0, ground := Ground.data }, { on := 0, ground := Ground.phase }], guard := none }] false)
noncomputable def apBody : Code := (Code.block 1 (Code.region 3 #[{ dst := some 8, op := Op.load 131 (Operand.tmp 2), type := 131, pos := "iter.go:52", after := #[], guard := none }, { dst := some 9, op := Op.load 134 (Operand.tmp 5), type := 134, pos := "iter.go:52", after := #[], guard := none }, { dst := some 10, op := Op.buildSlice 131 1 #[(0, Operand.tmp 9)], type := 131, pos := "iter.go:52", after := #[{ on := 1, ground := Ground.data }], guard := none }, { dst := some 11, op := Op.call { callee := Callee.builtin Builtin.append, args := #[Operand.tmp 8, Operand.tmp 10], argTypes := #[131, 131] }, type := 131, pos := "iter.go:52", after := #[{ on := 0, ground := Ground.data }, { on := 2, ground := Ground.data }], guard := none }, { dst := none, op := Op.store 131 (Operand.tmp 2) (Operand.tmp 11), type := 0, pos := "iter.go:52", after := #[{ on := 3, ground := Ground.data }, { on := 3, ground := Ground.chain }, { on := 0, ground := Ground.phase }, { on := 1, ground := Ground.phase }, { on := 2, ground := Ground.phase }, { on := 3, ground := Ground.phase }], guard := none }] false))
noncomputable def apRec (fn:FuncId) (sv:Value) (Bs D:Nat) (st:LoopState) (pend:Option Code):Loop:=
 { state:=st,pending:=pend,fn,tmps:=#[.slice none 0 0,sv, .pointer (some ⟨Bs,0,none⟩),undef, .slice none 0 0,undef,sv,undef,undef,undef,undef,undef,undef],params:=#[7],assign:=apAssign,body:=apBody,defers:=D }
theorem EL:(Tryz.prog.info? 134).map (fun i=>(i.zero,i.size,i.bytes))=some (some (.agg #[.int .i64 0, .int .i64 0, .int .i64 0]),3,24):=by kernel_rfl
set_option maxRecDepth 100000 in
set_option maxHeartbeats 2000000 in
theorem apYield (base:World) (fn:FuncId) (sv:Value) (Bs l D:Nat) (hBl:Bs≠l) (hDl:D≠l) (hDB:D≠Bs) (h0B:base.heap.size≤Bs) (h0l:base.heap.size≤l)
  (N:Nat) (hN:N≤maxLen) (hNb:N*24≤140737488355328) (xs:List Value) (n:Nat) (x:Nat×Nat×Nat) (W:World) (h:BZ base 131 134 3 (apRec fn sv Bs D .ready none) Bs l D xs n W) (hlen:n<N):
  YieldAt Fence.wide 0 Tryz.prog l #[fZ x] W fun e W' =>e= .returned (.bool true)∧BZ base 131 134 3 (apRec fn sv Bs D .ready none) Bs l D (xs++pP x) (n+1) W'∧Kept (B0 131 Bs l D) W W' :=by
 obtain⟨i0,hi,hz0,hz1,hz2⟩:=info_parts EL
 obtain⟨v,hv,hrow,_⟩:=h.box
 refine⟨fn,#[.slice none 0 0,sv, .pointer (some ⟨Bs,0,none⟩),undef, .slice none 0 0,undef,sv,fZ x,undef,undef,undef,undef,undef],apAssign,apBody,by simpa[apRec]using run_yield (P:=Tryz.prog) (args:=#[fZ x]) h.L rfl,roundIn_of_wpIn trivial ?_⟩
 have hl:l<W.heap.size:=(Array.getElem?_eq_some_iff.1 h.L).1
 unfold apAssign fZ
 gi_wp2_with (rw[Oper.semAt_eq _ _ _ (fun c h=>by cases h)];go_simp;try go_bits)
 obtain⟨Wa,hWa⟩:∃Wa,W.alloc (.cells #[.int .i64 x.1, .int .i64 x.2.1, .int .i64 x.2.2] 134)=Wa:=⟨_,rfl⟩
 have hsa:Wa.heap.size=W.heap.size+1:=by rw[←hWa];simp
 have hga:W.grownBy Wa none:=by rw[←hWa];exact World.grownBy_alloc _ _ _
 have hxa:Wa.heap[W.heap.size]? =some (.cells #[.int .i64 x.1, .int .i64 x.2.1, .int .i64 x.2.2] 134 (0,0)):=by rw[←hWa];exact World.alloc_heap_new W _
 rw[hWa]
 clear hWa
 have hLa:=(hga.block l hl (by simp)).trans h.L
 have hla:l<Wa.heap.size:=by omega
 have hbr:=run_beginRound (P:=Tryz.prog) hLa rfl
 obtain⟨W2,hW2⟩:∃W2,Wa.putObj l (.loop { apRec fn sv Bs D .ready none with state:= .busy })=W2:=⟨_,rfl⟩
 rw[hW2]at hbr
 have hga2:Wa.grownBy W2 (some l):=by rw[←hW2];exact grownBy_putObj _ _ _
 have hs2:W2.heap.size=W.heap.size+1:=by rw[←hW2];simp[World.putObj,hsa]
 have hva:Boxed Wa Bs 131 v:=hv.kept hga (by simp)
 have hv2:Boxed W2 Bs 131 v:=hva.kept hga2 (by simpa using hBl)
 have hxlt:W.heap.size<Wa.heap.size:=by omega
 have hxl:W.heap.size≠l:=by omega
 have hx2:W2.heap[W.heap.size]? =some (.cells #[.int .i64 x.1, .int .i64 x.2.1, .int .i64 x.2.2] 134 (0,0)):=(hga2.block _ hxlt (by simpa using hxl)).trans hxa
 have hKl:D<W.heap.size:=(Array.getElem?_eq_some_iff.1 h.K).1
 have hK2:W2.heap[D]? =some (.deferred (some [])):=(hga2.block D (by omega) (by simpa using hDl)).trans ((hga.block D hKl (by simp)).trans h.K)
 have hL2:W2.heap[l]? =some (.loop { apRec fn sv Bs D .ready none with state:= .busy }):=by rw[←hW2];exact World.putObj_heap_same hla
 have hrowa:Wa.ownsRow base.heap.size 134 3 v n xs:=hrow.kept hga (by cases v.ownBlock<;>simp)
 have hrow2:W2.ownsRow base.heap.size 134 3 v n xs:=hrowa.kept hga2 (ownsRow_ne hrowa hLa (fun cur e=>by cases e))
 have hb2:Below base.heap.size base W2:=(h.below.grown hga h.below.size (fun k e=>by cases e)).grown hga2 (by have:=h.below.size;omega) (fun k e=>by cases e;exact h0l)
 have hc2:=hv2.cell
 have hf2:=hv2.frozen
 have hx20:W2.cell? ⟨W.heap.size,0,none⟩=some (.int .i64 x.1):=by simp[World.cell?,hx2]
 have hx21:W2.cell? ⟨W.heap.size,1,none⟩=some (.int .i64 x.2.1):=by simp[World.cell?,hx2]
 have hx22:W2.cell? ⟨W.heap.size,2,none⟩=some (.int .i64 x.2.2):=by simp[World.cell?,hx2]
 clear hW2
 have HS2:Hid (W2.heap.size=W.heap.size+1):=hs2
 clear hs2
 refine⟨W2,hbr,?_⟩
 unfold apBody
 gi_wp2_with (first
  |(gi_at_builtin;refine kT _ rfl _ _ 131 rfl base.heap.size 134 i0 (.agg #[.int .i64 0, .int .i64 0, .int .i64 0]) 3 24 Tryz.underlying131 hi hz0 hz1 hz2 rfl (by decide) _ _ _ rfl (hrow2.alloc _) ⟨W2.heap.size,0,none⟩ 1 1 (pP x) rfl rfl (by decide) ?c1 ?c2 ?c3 ?c4 ?c5 ?_
    case c1=>intro j u hu;rw[Addr.add_lit];have:=World.alloc_heap_new W2 (.cells #[.int .i64 x.1, .int .i64 x.2.1, .int .i64 x.2.2] 134);simp only[World.cell?,Nat.zero_add];rw[this];exact(by simpa[pP]using hu)
    case c2=>intro u hu;simp[pP]at hu;rcases hu with rfl|rfl|rfl<;>rfl
    case c3=>omega
    case c4=>omega
    case c5=>have:=hb2.size;simp;omega
    intro v' w3 hown' hg3 hwh
    have hv2a:=hv2.alloc (.cells #[.int .i64 x.1, .int .i64 x.2.1, .int .i64 x.2.2] 134)
    have hv3:Boxed w3 Bs 131 v:=hv2a.kept hg3 (hv2.not_row (by decide) hrow2)
    have hc3:=hv3.cell
    have hf3:=hv3.frozen
    obtain⟨g',cap',rfl⟩:=ownsRow_succ hown'
    simp only[Act.put,List.setIfInBounds_toArray,List.set_cons_succ,List.set_cons_zero])
  |(rw[Oper.semAt_eq _ _ _ (fun c h=>by cases h)];go_simp;try go_bits))
 have hs2:=HS2.out
 have hg3' :(W2.alloc (.cells #[.int .i64 x.1, .int .i64 x.2.1, .int .i64 x.2.2] 134)).grownBy w3 v.ownBlock:=hg3
 have ne_of:∀{j:Nat} {o:Obj},W2.heap[j]? =some o→(∀cur,o≠ .cells cur 134 (0,0))→some j≠v.ownBlock:=fun hj hno=>by
  rcases ownsRow_ne hrow2 hj hno with e|e
  ·rw[e];simp
  ·exact fun e' =>e e'.symm
 have hl2:l<W2.heap.size:=by omega
 have hD2:D<W2.heap.size:=by omega
 have hL3:w3.heap[l]? =some (.loop { apRec fn sv Bs D .ready none with state:= .busy }):=(hg3'.block l (by simp;omega) (ne_of hL2 (fun cur e=>by cases e))).trans ((Below.heap_alloc _ _ l hl2).trans hL2)
 have hK3:w3.heap[D]? =some (.deferred (some [])):=(hg3'.block D (by simp;omega) (ne_of hK2 (fun cur e=>by cases e))).trans ((Below.heap_alloc _ _ D hD2).trans hK2)
 have hs3:W.heap.size+2≤w3.heap.size:=by have:=hg3'.size;simp at this;omega
 obtain⟨w4,hw4⟩:∃w4,w3.setCell ⟨Bs,0,none⟩ (.slice (some ⟨g',0,none⟩) (n+1) cap')=w4:=⟨_,rfl⟩
 rw[hw4]
 have hg4:w3.grownBy w4 (some Bs):=by rw[←hw4];exact grownBy_setCell _ _ _
 have hv4:Boxed w4 Bs 131 (.slice (some ⟨g',0,none⟩) (n+1) cap'):=by rw[←hw4];exact hv3.set _
 have hL4:w4.heap[l]? =some (.loop { apRec fn sv Bs D .ready none with state:= .busy }):=(hg4.block l (Array.getElem?_eq_some_iff.1 hL3).1 (fun e=>hBl (by cases e;rfl))).trans hL3
 have hK4:w4.heap[D]? =some (.deferred (some [])):=(hg4.block D (Array.getElem?_eq_some_iff.1 hK3).1 (fun e=>hDB (by cases e;rfl))).trans hK3
 have hrow4:=hown'.kept hg4 (.inr (hv3.not_row (by decide) hown').symm)
 have hs4:w3.heap.size=w4.heap.size:=by rw[←hw4];simp[World.setCell]
 have hl4:l<w4.heap.size:=by omega
 have hb3:Below base.heap.size base w3:=(hb2.alloc hb2.size _).grown hg3' (by have:=hb2.size;simp;omega) (fun k e=>(hrow2.lt k e).1)
 have hb4:Below base.heap.size base w4:=hb3.grown hg4 hb3.size (fun k e=>by cases e;exact h0B)
 clear hw4
 have hg5:w4.grownBy (w4.putObj l (.loop { { apRec fn sv Bs D .ready none with state:= .busy } with state:=if(none:Option Code).isNone then .ready else .done,pending:=none })) (some l):=grownBy_putObj _ _ _
 have hv5:=hv4.kept hg5 (by simpa using hBl)
 have hrow5:=hrow4.kept hg5 (ownsRow_ne hrow4 hL4 (fun cur e=>by cases e))
 refine⟨_,_,run_endRound none hL4,rfl,⟨⟨_,hv5,hrow5,by simp⟩,World.putObj_heap_same hl4,(World.putObj_heap_other hDl).trans hK4,hb4.grown hg5 hb4.size (fun k e=>by cases e;exact h0l)⟩,?_,?_⟩
 ·exact Nat.le_trans (by omega) hg5.size
 ·intro j hj hT
  have hjB:j≠Bs:=fun e=>hT ⟨hj, .inl e⟩
  have hjl:j≠l:=fun e=>hT ⟨hj, .inr (.inl e)⟩
  have hjD:j≠D:=fun e=>hT ⟨hj, .inr (.inr (.inl e))⟩
  have hjv:some j≠v.ownBlock:=fun e=>hT ⟨hj, .inr (.inr (.inr ⟨v,hv,e.symm⟩))⟩
  have e1:=hga.block j hj (by simp)
  have e2:=hga2.block j (by omega) (by simpa using hjl)
  have e3:=Below.heap_alloc W2 (.cells #[.int .i64 x.1, .int .i64 x.2.1, .int .i64 x.2.2] 134) j (by omega)
  have e4:=hg3'.block j (by simp;omega) hjv
  have e5:=hg4.block j (by omega) (by simpa using hjB)
  have e6:=hg5.block j (by omega) (by simpa using hjl)
  refine⟨e6.trans (e5.trans (e4.trans (e3.trans (e2.trans e1)))),?_⟩
  rintro⟨_,h1|h1|h1|⟨v',hv',h1⟩⟩
  ·exact hjB h1
  ·exact hjl h1
  ·exact hjD h1
  ·have h3:=(show _=_ from hv').symm.trans hv5
   simp at h3
   subst h3
   have hwh' :(some g' =v.ownBlock∨some g' =some (W2.alloc (.cells #[.int .i64 x.1, .int .i64 x.2.1, .int .i64 x.2.2] 134)).heap.size):=hwh
   have h1' :g' =j:=by simpa[Value.ownBlock]using h1
   subst h1'
   rcases hwh' with e|e
   ·exact hjv e
   ·simp at e;omega
end Go.Proofs.YtdoaoaicdimbeaaGreatDoor
end
section
namespace Go.Proofs.YtdoaoaicdimbeaaGreatDoor
open Go.RowKit Go.Shelf Go.Rg
attribute [local go_sem] Oper.semAt_some
def eF (xs:List (Nat×Nat×Nat)):List Value:=xs.flatMap pP
set_option maxRecDepth 100000 in
set_option maxHeartbeats 2000000 in
theorem appendSeq_in (g:Nat) (lb:Array Value) (eg:∀args w,(callFunc g args).run Tryz.prog w= .ok (.enter g args) w)
  (xs:List (Nat×Nat×Nat)) (hN:xs.length≤maxLen) (hNb:xs.length*24≤140737488355328) (w:World) (hseq:xK Tryz.prog g lb fZ xs w):
  CallsIn Fence.wide 2 Tryz.prog 136 #[.slice none 0 0, .func (.func g) #[] lb] w fun e w' =>∃v:Value,e= .returned v∧w'.ownsRow w.heap.size 134 3 v xs.length (eF xs)∧Below w.heap.size w w' :=by
 refine callsIn_of_wp_marks Tryz.func136 rfl trivial ?_ rfl
 simp only[Tryz.ntmps136,List.size_toArray,List.length_cons,List.length_nil,Nat.reduceAdd,Nat.reduceSub,Array.replicate_succ,Array.replicate_zero,List.push_toArray,List.append_toArray,List.nil_append,List.cons_append]
 gi_wp2
 refine wpIn_rangeFunc ?_
 intro fn hfn
 obtain⟨W0,hW0⟩:∃W0,w.alloc (.cells #[.slice none 0 0] 131)=W0:=⟨_,rfl⟩
 have hs0:W0.heap.size=w.heap.size+1:=by rw[←hW0];simp
 have hv0:W0.heap[w.heap.size]? =some (.cells #[.slice none 0 0] 131 (0,0)):=by rw[←hW0];exact World.alloc_heap_new w _
 have hb0:Below w.heap.size w W0:=by rw[←hW0];exact(Below.refl _ w).alloc (Nat.le_refl _) _
 rw[hW0]
 obtain⟨W1,hW1⟩:∃W1,(W0.alloc (.deferred (some []))).alloc (.loop (apRec fn (.func (.func g) #[] lb) w.heap.size W0.heap.size .ready none))=W1:=⟨_,rfl⟩
 have hold:∀k,k<W0.heap.size→W1.heap[k]? =W0.heap[k]? :=fun k hk=>by
  rw[←hW1];exact(Below.heap_alloc _ _ k (by simp;omega)).trans (Below.heap_alloc _ _ k hk)
 have hb1:Below w.heap.size w W1:=by rw[←hW1];exact(hb0.alloc hb0.size _).alloc (by have:=hb0.size;simp;omega) _
 have hs1:W1.heap.size=W0.heap.size+2:=by rw[←hW1];simp
 have hM:BZ w 131 134 3 (apRec fn (.func (.func g) #[] lb) w.heap.size W0.heap.size .ready none) w.heap.size (W0.heap.size+1) W0.heap.size (eF (xs.take 0)) 0 W1:=
  ⟨⟨_,(hold w.heap.size (by omega)).trans hv0,⟨rfl, .inl ⟨rfl,rfl⟩⟩,by simp⟩,
   by rw[←hW1];have:=World.alloc_heap_new (W0.alloc (.deferred (some []))) (.loop (apRec fn (.func (.func g) #[] lb) w.heap.size W0.heap.size .ready none));rwa [World.size_alloc]at this,
   by rw[←hW1];exact(Below.heap_alloc _ _ _ (by simp)).trans (World.alloc_heap_new W0 _),hb1⟩
 refine⟨W0.heap.size+1,[{ target:= .collected W0.heap.size,args:=#[] }],W1,{ target:= .fn (.func g) lb,args:=#[.func (.yield (W0.heap.size+1)) #[] #[]] },W1,g,
  #[.func (.yield (W0.heap.size+1)) #[] #[]]++lb,W1,?_,?_,?_,?_,fun h=>by simp[Fence.wide]at h,?_⟩
 ·rw[←hW1];exact run_enterLoop_outer _ _ _ _ _
 ·simp[resolve,go_sem]
 ·intro f' hf';trivial
 ·simp[invoke,go_sem,eg]
 ·refine(hseq (W0.heap.size+1) (fun i W=>BZ w 131 134 3 (apRec fn (.func (.func g) #[] lb) w.heap.size W0.heap.size .ready none) w.heap.size (W0.heap.size+1) W0.heap.size (eF (xs.take i)) i W) (fun _=>False) (B0 131 w.heap.size (W0.heap.size+1) W0.heap.size) W1
   (xM _ _ _ _ _ _ _ _ _) ?_ hM).mono ?_
  ·intro i x W hx hJ
   have hi:=(List.getElem?_eq_some_iff.1 hx).1
   have:=apYield w fn (.func (.func g) #[] lb) w.heap.size (W0.heap.size+1) W0.heap.size (by omega) (by omega) (by omega) (Nat.le_refl _) (by omega) xs.length hN hNb (eF (xs.take i)) i x W hJ hi
   have e:eF (xs.take (i+1))=eF (xs.take i)++pP x:=by
    rw[List.take_add_one,hx]
    simp[eF]
   obtain⟨fn',tmps',as',bd',hy,hR⟩:=this
   refine⟨fn',tmps',as',bd',hy,hR.mono ?_⟩
   rintro e' W' ⟨rfl,hc,hk⟩
   exact .inl ⟨rfl,by dsimp only;rw[e];exact hc,hk⟩
  rintro e W2 ⟨⟨v0,rfl⟩,h2⟩
  replace h2:=h2.resolve_right id
  rw[List.take_length]at h2
  obtain⟨v,hv,hrow,hnil⟩:=h2.box
  have hend:=run_endLoop (P:=Tryz.prog) h2.L (by simp[apRec])
  obtain⟨W3,hW3⟩:∃W3,W2.putObj (W0.heap.size+1) (.loop { apRec fn (.func (.func g) #[] lb) w.heap.size W0.heap.size .ready none with state:= .exhausted })=W3:=⟨_,rfl⟩
  rw[hW3]at hend
  have hg3:W2.grownBy W3 (some (W0.heap.size+1)):=by rw[←hW3];exact grownBy_putObj _ _ _
  have hv3:Boxed W3 w.heap.size 131 v:=hv.kept hg3 (by simp;omega)
  have hK3:W3.heap[W0.heap.size]? =some (.deferred (some [])):=by rw[←hW3];exact(World.putObj_heap_other (by omega)).trans h2.K
  have hrow3:=hrow.kept hg3 (ownsRow_ne hrow h2.L (fun cur e=>by cases e))
  have hb3:Below w.heap.size w W3:=h2.below.grown hg3 h2.below.size (fun k e=>by cases e;omega)
  have hc3:=hv3.cell
  have hf3:=hv3.frozen
  clear hW3
  refine⟨none,W3,hend,?_⟩
  gi_wp2
  rw[←hs0]
  refine⟨by simp, .inl ⟨_,_,rfl,run_takeDeferred hK3,?_⟩⟩
  exact⟨_,results_tmp rfl _ _ _,v,rfl,hrow3.kept (grownBy_putObj _ _ _) (ownsRow_ne hrow3 hK3 (fun cur e=>by cases e)),hb3.grown (grownBy_putObj _ _ _) hb3.size (fun k e=>by cases e;omega)⟩
set_option maxHeartbeats 1000000 in
theorem collect_in (g:Nat) (lb:Array Value) (eg:∀args w,(callFunc g args).run Tryz.prog w= .ok (.enter g args) w)
  (xs:List (Nat×Nat×Nat)) (hN:xs.length≤maxLen) (hNb:xs.length*24≤140737488355328) (w:World) (hseq:xK Tryz.prog g lb fZ xs w):
  Calls Tryz.prog 101 #[.func (.func g) #[] lb] w fun e w' =>∃v:Value,e= .returned v∧w'.ownsRow w.heap.size 134 3 v xs.length (eF xs)∧Below w.heap.size w w' :=by
 go_enter Tryz.func101,Tryz.ntmps101
 go_wp2_with (first|(go_at_call 136;refine(callsIn_wide.1 (appendSeq_in g lb eg xs hN hNb _ hseq)).mono ?_;rintro e w' ⟨v,rfl,hrow,hb⟩))
 go_ret
 exact⟨v,rfl,hrow,hb⟩
theorem pQ {F:Fence} {n:Nat} {P:Program} {g:Operand} {ps:Array Tmp} {assign body:Code} {Q:Exit→Act→World→Prop} {a:Act} {w:World}
  (hro:F.round=none) (h1:1≤n) {gf:Nat} {lb:Array Value} (hg:a.eval g= .func (.func gf) #[] lb) (hFg:F.fn gf) (eg:∀args w,(callFunc gf args).run P w= .ok (.enter gf args) w)
  (h:∀(fn:FuncId) (rec:Loop) (W1:World),rec={ state:= .ready,pending:=none,fn,tmps:=a.tmps,params:=ps,assign,body,defers:=w.heap.size }→W1=(w.alloc (.deferred (some []))).alloc (.loop rec)→
   CallsIn F (n - 1) P gf (#[.func (.yield (w.heap.size+1)) #[] #[]]++lb) W1 (rangePost F n P (w.heap.size+1) Q { a with defers:=[{ target:= .collected w.heap.size,args:=#[] }]++a.defers })):
  (Code.rangeFunc g ps assign body).wpIn F n P Q a w:=by
 refine wpIn_rangeFunc ?_
 intro fn hfn
 rw[hro]
 obtain⟨rec,hrec⟩:∃rec:Loop,rec={ state:= .ready,pending:=none,fn,tmps:=a.tmps,params:=ps,assign,body,defers:=w.heap.size }:=⟨_,rfl⟩
 obtain⟨W1,hW1⟩:∃W1,W1=(w.alloc (.deferred (some []))).alloc (.loop rec):=⟨_,rfl⟩
 have hcall:=h fn rec W1 hrec hW1
 refine⟨w.heap.size+1,[{ target:= .collected w.heap.size,args:=#[] }],W1,{ target:= .fn (.func gf) lb,args:=#[.func (.yield (w.heap.size+1)) #[] #[]] },W1,gf,
  #[.func (.yield (w.heap.size+1)) #[] #[]]++lb,W1,?_,?_,?_,?_,fun _=>h1,?_⟩
 ·rw[hW1,hrec];exact run_enterLoop_outer _ _ _ _ _
 ·simp only[resolve,hg]
  simp[go_sem]
 ·intro f' hf';simp[Target.leads]at hf';subst hf';exact hFg
 ·simp[invoke,go_sem,eg]
 ·exact hcall
end Go.Proofs.YtdoaoaicdimbeaaGreatDoor
end
section
namespace Go.Proofs.YtdoaoaicdimbeaaGreatDoor
open Go.RowKit Go.Shelf Go.Rg
theorem oJ:∀{l:List UInt8} {c:UInt8} {o:Nat},l[o]? =some c→(∀k,k<o→l[k]?≠some c)→Lib.indexByte l c=o
 |[],_,o,h,_=>by simp at h
 |b::l,c,0,h,_=>by
  simp at h
  subst h
  simp[Lib.indexByte]
 |b::l,c,o+1,h,hn=>by
  have h0:b≠c:=fun e=>hn 0 (by omega) (by simp[e])
  have ih:=oJ (l:=l) (o:=o) (by simpa using h) fun k hk=>by have:=hn (k+1) (by omega);simpa using this
  unfold Lib.indexByte
  have hb:(b==c)=false:=by simpa using h0
  rw[hb,ih]
  have:((o:Int)== -1)=false:=by simp
  simp[this]
theorem mY:∀{l:List UInt8} {c:UInt8},(∀k,k<l.length→l[k]?≠some c)→Lib.indexByte l c= -1
 |[],_,_=>rfl
 |b::l,c,hn=>by
  have h0:b≠c:=fun e=>hn 0 (by simp) (by simp[e])
  have ih:=mY (l:=l) (c:=c) fun k hk=>by have:=hn (k+1) (by simpa using hk);simpa using this
  unfold Lib.indexByte
  have hb:(b==c)=false:=by simpa using h0
  simp[hb,ih]
set_option maxHeartbeats 1000000 in
theorem A5 (w:World) (b off cap:Nat) (bs:List UInt8) (v:UInt8) (hc:∀j x,bs[j]? =some x→w.cell? ⟨b,off+j,none⟩=some (.int .u8 x.toNat)) (hlen:bs.length<9223372036854775807):
  Calls Tryz.prog 124 #[.slice (some ⟨b,off,none⟩) bs.length cap, .int .u8 v.toNat] w fun e w' =>e= .returned (.int .i64 (Lib.indexByte bs v))∧w' =w:=by
 have HC:Aside (∀j x,bs[j]? =some x→w.cell? ⟨b,off+j,none⟩=some (.int .u8 x.toNat)):=hc
 clear hc
 go_enter Tryz.func124,Tryz.ntmps124
 go_wp2
 go_loopg [8] bs.length (fun g s8 wr=>∃k:Nat,s8= .int .i64 k∧k≤bs.length∧g=bs.length - k∧wr=w∧Aside (∀j,j<k→bs[j]?≠some v))
 case atStart=>exact⟨0,rfl,Nat.zero_le _,rfl,rfl,fun j hj=>by omega⟩
 case round=>
  obtain⟨k,rfl,hk,rfl,rfl,hn⟩:=hrel
  by_cases hlt:k<bs.length
  ·have hltz:(k:Int)<(bs.length:Int):=by omega
   have hcx:=HC.out k bs[k] (by simp[hlt])
   by_cases hv:bs[k]=v
   ·have hq:((v.toNat:Int)==(bs[k].toNat:Int))=true:=by rw[hv];simp
    go_wp2
    go_ret
    have e:=oJ (o:=k) (c:=v) (l:=bs) (by simp[hlt,hv]) hn.out
    exact⟨by rw[e];rfl,rfl⟩
   ·have hq:((v.toNat:Int)==(bs[k].toNat:Int))=false:=by
     have:v.toNat≠bs[k].toNat:=fun e=>hv (UInt8.toNat_inj.1 e.symm)
     exact beq_eq_false_iff_ne.2 (by omega)
    go_wp2
    go_roundg (bs.length - (k+1))
    case measure=>go_light;omega
    case rel=>
     go_light
     refine⟨k+1,by push_cast;rfl,by omega,by omega,rfl,fun j hj=>?_⟩
     rcases Nat.lt_or_ge j k with h|h
     ·exact hn.out j h
     ·obtain rfl:j=k:=by omega
      simp[hlt,hv]
  ·have hltz:¬((k:Int)<(bs.length:Int)):=by omega
   go_wp2
   go_ret
   obtain rfl:k=bs.length:=by omega
   have e:=mY hn.out
   exact⟨by rw[e];rfl,rfl⟩
end Go.Proofs.YtdoaoaicdimbeaaGreatDoor
end
section
namespace Go.Proofs.YtdoaoaicdimbeaaGreatDoor
open Go.RowKit Go.Shelf Go.Rg
attribute [local go_sem] Oper.semAt_some
def iJ:Nat→Nat→List UInt8→List (Nat×Nat×Nat)
 |0,_,_=>[]
 |n+1,a,s=>if s=[]then[]else if Lib.indexByte s 10<0 then[(a,a+s.length,a+s.length)]else
  (a,a+(if 0<(Lib.indexByte s 10).toNat∧s[(Lib.indexByte s 10).toNat - 1]? =some 13 then(Lib.indexByte s 10).toNat - 1 else(Lib.indexByte s 10).toNat),a+(Lib.indexByte s 10).toNat+1)::
   iJ n (a+(Lib.indexByte s 10).toNat+1) (s.drop ((Lib.indexByte s 10).toNat+1))
def cG (a:Nat) (s:List UInt8):List (Nat×Nat×Nat):=iJ s.length a s
theorem qH:∀(n m a:Nat) (s:List UInt8),s.length≤n→s.length≤m→iJ n a s=iJ m a s
 |0,m,a,s,h,_=>by
  have:s=[]:=List.eq_nil_of_length_eq_zero (by omega)
  subst this
  cases m<;>simp[iJ]
 |n+1,0,a,s,_,h=>by
  have:s=[]:=List.eq_nil_of_length_eq_zero (by omega)
  subst this
  simp[iJ]
 |n+1,m+1,a,s,h,h' =>by
  simp only[iJ]
  by_cases hs:s=[]
  ·simp[hs]
  ·rw[if_neg hs,if_neg hs]
   have hp:0<s.length:=List.length_pos_iff.2 hs
   rw[qH n m (a+(Lib.indexByte s 10).toNat+1) (s.drop ((Lib.indexByte s 10).toNat+1)) (by rw[List.length_drop];omega) (by rw[List.length_drop];omega)]
theorem sD (a:Nat):cG a []=[]:=rfl
theorem xN (a:Nat) (s:List UInt8) (hs:s≠[]):cG a s=if Lib.indexByte s 10<0 then[(a,a+s.length,a+s.length)]else
  (a,a+(if 0<(Lib.indexByte s 10).toNat∧s[(Lib.indexByte s 10).toNat - 1]? =some 13 then(Lib.indexByte s 10).toNat - 1 else(Lib.indexByte s 10).toNat),a+(Lib.indexByte s 10).toNat+1)::
   cG (a+(Lib.indexByte s 10).toNat+1) (s.drop ((Lib.indexByte s 10).toNat+1)):=by
 have hp:0<s.length:=List.length_pos_iff.2 hs
 obtain⟨n,hn⟩:∃n,s.length=n+1:=⟨s.length - 1,by omega⟩
 unfold cG
 rw[hn]
 conv=>lhs;unfold iJ
 rw[if_neg hs,qH n _ _ (s.drop ((Lib.indexByte s 10).toNat+1)) (by rw[List.length_drop];omega) (Nat.le_refl _),hn]
set_option maxRecDepth 100000 in
set_option maxHeartbeats 4000000 in
theorem qI (X:Nat→Prop) (base:World) (S B b off cap fr to:Nat) (bs:List UInt8) (hXS:¬X S) (hXB:¬X B) (hXb:¬X b) (hft:fr≤to) (htl:to≤bs.length) (hcap:bs.length≤cap) (hmax:bs.length≤9223372036854775000)
  (hs0:base.cell? ⟨S,0,none⟩=some (.int .i64 fr)) (hs1:base.cell? ⟨S,1,none⟩=some (.int .i64 to)) (hb0:base.cell? ⟨B,0,none⟩=some (.slice (some ⟨b,off,none⟩) bs.length cap))
  (hc:∀j x,bs[j]? =some x→base.cell? ⟨b,off+j,none⟩=some (.int .u8 x.toNat)):
  sC X Tryz.prog 123 #[.pointer (some ⟨S,0,none⟩), .pointer (some ⟨B,0,none⟩)] fZ (cG fr ((bs.take to).drop fr)) base:=by
 intro l J Jx T W hab hR h0
 have HC:Aside (∀j x,bs[j]? =some x→base.cell? ⟨b,off+j,none⟩=some (.int .u8 x.toNat)):=hc
 clear hc
 have hob:=hab.old 0 W h0
 have hS:S<base.heap.size:=World.block_lt_of_cell? base _ hs0
 have hB:B<base.heap.size:=World.block_lt_of_cell? base _ hb0
 have hS0:W.cell? ⟨S,0,none⟩=some (.int .i64 fr):=(hob.cell (p:=⟨S,0,none⟩) hS hXS).trans hs0
 refine callsIn_of_wp Tryz.func123 rfl trivial ?_ rfl
 simp only[Tryz.ntmps123,List.size_toArray,List.length_cons,List.length_nil,Nat.reduceAdd,Nat.reduceSub,Array.replicate_succ,Array.replicate_zero,List.push_toArray,List.append_toArray,List.nil_append,List.cons_append]
 gi_wp2
 gi_loopw [4] (fun i wr=>∃(a n:Nat),i= .int .i64 a∧fr≤a∧a≤to∧J n wr∧cG a ((bs.take to).drop a)=(cG fr ((bs.take to).drop fr)).drop n∧n≤(cG fr ((bs.take to).drop fr)).length)
  (fun i _=>to - (intOf i).toNat)
 case atStart=>exact⟨fr,0,rfl,Nat.le_refl _,hft,h0,by simp,Nat.zero_le _⟩
 case round=>
  obtain⟨a,n,rfl,hfa,hat,hJ,hX,hnl⟩:=hrel
  have HX:Aside (cG a ((bs.take to).drop a)=(cG fr ((bs.take to).drop fr)).drop n∧n≤(cG fr ((bs.take to).drop fr)).length):=⟨hX,hnl⟩
  clear hX hnl
  have hor:=hab.old n wr hJ
  have hS1:wr.cell? ⟨S,1,none⟩=some (.int .i64 to):=(hor.cell (p:=⟨S,1,none⟩) hS hXS).trans hs1
  have hB0:wr.cell? ⟨B,0,none⟩=some (.slice (some ⟨b,off,none⟩) bs.length cap):=(hor.cell (p:=⟨B,0,none⟩) hB hXB).trans hb0
  by_cases hlt:a<to
  ·have hltz:(a:Int)<(to:Int):=by omega
   have c0:(0:Int)≤(a:Int):=by omega
   have c1:(a:Int)≤(to:Int):=by omega
   have c2:(to:Int)≤(cap:Int):=by omega
   generalize hseg:(bs.take to).drop a=seg at HX
   have hsl:seg.length=to - a:=by rw[←hseg];simp;omega
   have hcs:∀(w' :World),(∀k,k<base.heap.size→¬X k→w'.heap[k]? =base.heap[k]?)→∀j x,seg[j]? =some x→w'.cell? ⟨b,off+a+j,none⟩=some (.int .u8 x.toNat):=by
    intro w' hw j x hx
    have h1:bs[a+j]? =some x:=by
     rw[←hseg,List.getElem?_drop,List.getElem?_take]at hx
     split at hx
     ·exact hx
     ·cases hx
    have h2:=HC.out (a+j) x h1
    have hb:=World.block_lt_of_cell? base _ h2
    have h3:=hw b hb hXb
    simp only[World.cell?]at h2 ⊢
    rw[h3,Nat.add_assoc]
    exact h2
   have HSL:Aside (seg.length=to - a):=hsl
   have HCS:Aside (∀(w' :World),(∀k,k<base.heap.size→¬X k→w'.heap[k]? =base.heap[k]?)→∀j x,seg[j]? =some x→w'.cell? ⟨b,off+a+j,none⟩=some (.int .u8 x.toNat)):=hcs
   clear hcs hsl
   have hBl:B<wr.heap.size:=Nat.lt_of_lt_of_le hB hor.size
   have hSl:S<wr.heap.size:=Nat.lt_of_lt_of_le hS hor.size
   have hB1:∀cs,(wr.alloc (.cells cs 134)).cell? ⟨B,0,none⟩=some (.slice (some ⟨b,off,none⟩) bs.length cap):=fun cs=>(World.cell?_of_block (Below.heap_alloc _ _ B hBl)).trans hB0
   have hS2:∀cs,(wr.alloc (.cells cs 134)).cell? ⟨S,1,none⟩=some (.int .i64 to):=fun cs=>(World.cell?_of_block (Below.heap_alloc _ _ S hSl)).trans hS1
   have hwa:∀cs k,k<base.heap.size→¬X k→(wr.alloc (.cells cs 134)).heap[k]? =base.heap[k]? :=fun cs k hk hx=>(Below.heap_alloc _ _ k (Nat.lt_of_lt_of_le hk hor.size)).trans (hor.block k hk hx)
   have hidx:∀cs,CallsIn Fence.wide 0 Tryz.prog 124 #[.slice (some ⟨b,off+a,none⟩) (to - a) (cap - a), .int .u8 10] (wr.alloc (.cells cs 134)) fun e w' =>e= .returned (.int .i64 (Lib.indexByte seg 10))∧w' =wr.alloc (.cells cs 134):=by
    intro cs
    have:=A5 (wr.alloc (.cells cs 134)) b (off+a) (cap - a) seg 10 (HCS.out _ (hwa cs)) (by rw[HSL.out];omega)
    rw[HSL.out]at this
    exact callsIn_wide.2 this
   have hsne:seg≠[]:=fun e=>by have:=HSL.out;rw[e]at this;simp at this;omega
   have hxs:=xN a seg hsne
   have fin:∀(e nx:Nat) (E N:Int) (rest:List (Nat×Nat×Nat)),E=e→N=nx→cG a seg=(a,e,nx)::rest→
     rest=(cG fr ((bs.take to).drop fr)).drop (n+1)∧n+1≤(cG fr ((bs.take to).drop fr)).length∧
     YieldAt Fence.wide 0 Tryz.prog l #[.agg #[.int .i64 a, .int .i64 E, .int .i64 N]] (wr.alloc (.cells #[.int .i64 a, .int .i64 E, .int .i64 N] 134)) fun e' W' =>
      (e' = .returned (.bool true)∧J (n+1) W'∧W'.cell? ⟨wr.heap.size,2,none⟩=some (.int .i64 N))∨(e' = .returned (.bool false)∧Jx W'):=by
    intro e nx E N rest hE hN hl
    subst hE hN
    have h1:=HX.out.1
    rw[hl]at h1
    have hxx:(cG fr ((bs.take to).drop fr))[n]? =some (a,e,nx):=by
     have h2:=congrArg (fun l=>l[0]?) h1
     simp only[List.getElem?_drop,Nat.add_zero]at h2
     rw[←h2]
     rfl
    have hrest:rest=(cG fr ((bs.take to).drop fr)).drop (n+1):=by
     have h2:=congrArg (List.drop 1) h1
     rw[List.drop_drop]at h2
     exact h2
    refine⟨hrest,(List.getElem?_eq_some_iff.1 hxx).1,?_⟩
    have hga:wr.grownBy (wr.alloc (.cells #[.int .i64 a, .int .i64 e, .int .i64 nx] 134)) none:=World.grownBy_alloc _ _ _
    have hst:=hab.step n wr _ none hJ hga (fun r e=>by cases e)
    have hTX:¬T (wr.alloc (.cells #[.int .i64 a, .int .i64 e, .int .i64 nx] 134)) wr.heap.size:=fun h=>Nat.lt_irrefl _ (hab.lt n wr _ hJ (hst.2 _ h))
    have hX2:(wr.alloc (.cells #[.int .i64 a, .int .i64 e, .int .i64 nx] 134)).cell? ⟨wr.heap.size,2,none⟩=some (.int .i64 nx):=by simp
    have hXl:wr.heap.size<(wr.alloc (.cells #[.int .i64 a, .int .i64 e, .int .i64 nx] 134)).heap.size:=by simp
    obtain⟨fn,tmps,assign,body,hy,hRd⟩:=hR n (a,e,nx) _ hxx hst.1
    refine⟨fn,tmps,assign,body,hy,hRd.mono ?_⟩
    rintro e' W3 (⟨rfl,hJ3,hk3⟩|⟨rfl,hJx3⟩)
    ·exact .inl ⟨rfl,hJ3,(World.cell?_of_block (hk3.block _ hXl hTX).1).trans hX2⟩
    ·exact .inr ⟨rfl,hJx3⟩
   by_cases hk:Lib.indexByte seg 10<0
   ·have hk1:Lib.indexByte seg 10= -1:=by have:=Lib.indexByte_ge seg 10;omega
    rw[hk1]at hidx
    rw[if_pos hk]at hxs
    obtain⟨hr1,hr2,fn,tmps,assign,body,hy,hRd⟩:=fin to to to to [] rfl rfl (by rw[hxs,HSL.out];congr 3<;>omega)
    have HR1:=(show Hid _ from hr1)
    have HR2:=(show Hid _ from hr2)
    clear hxs hk hk1 hwa hsne fin hr1 hr2
    gi_wp2
    refine⟨trivial,(hidx _).mono ?_⟩
    clear hidx
    rintro e w' ⟨rfl,rfl⟩
    gi_wp2
    refine hRd.mono ?_
    rintro e W3 (⟨rfl,hJ3,hX3⟩|⟨rfl,hJx3⟩)
    ·gi_wp2
     go_roundw
     case rel=>
      refine⟨to,n+1,rfl,by omega,by omega,hJ3,?_,HR2.out⟩
      have h3:(bs.take to).drop to=[]:=by simp
      rw[h3,sD]
      exact HR1.out
     case measure=>simp[intOf];omega
    ·gi_wp2
     refine bodyPost_ret (results_none rfl _ _ _) rfl ?_
     exact⟨⟨_,rfl⟩, .inr hJx3⟩
   ·obtain⟨q,hq⟩:∃q:Nat,Lib.indexByte seg 10=q:=⟨(Lib.indexByte seg 10).toNat,by omega⟩
    rw[hq]at hidx
    rw[if_neg hk,hq]at hxs
    have hq0:=Lib.indexByte_some hq
    have hql:q<seg.length:=(List.getElem?_eq_some_iff.1 hq0.1).1
    have hqa:q<to - a:=by rw[←HSL.out];exact hql
    have hdr:seg.drop (q+1)=(bs.take to).drop (a+q+1):=by rw[←hseg,List.drop_drop,Nat.add_assoc]
    have hxs' :cG a seg=(a,a+(if 0<q∧seg[q - 1]? =some 13 then q - 1 else q),a+q+1)::cG (a+q+1) ((bs.take to).drop (a+q+1)):=by rw[←hdr];exact hxs
    have z1:(0:Int)≤(q:Int):=by omega
    by_cases hq1:0<q
    ·have z2:(0:Int)<(q:Int):=by omega
     obtain⟨y,hy0⟩:∃y,seg[q - 1]? =some y:=⟨_,List.getElem?_eq_getElem (by omega)⟩
     have hcb:∀cs,(wr.alloc (.cells cs 134)).cell? ⟨b,off+(a+q - 1),none⟩=some (.int .u8 y.toNat):=by
      intro cs
      have:=HCS.out _ (hwa cs) (q - 1) y hy0
      rw[show off+(a+q - 1)=off+a+(q - 1)by omega]
      exact this
     by_cases h13:y=13
     ·have hq13:((y.toNat:Int)==13)=true:=by rw[h13];rfl
      obtain⟨hr1,hr2,fn,tmps,assign,body,hy,hRd⟩:=fin (a+(q - 1)) (a+q+1) (a+q - 1) (a+q+1) _ (by omega) (by omega) (by rw[hxs',if_pos ⟨hq1,by rw[hy0,h13]⟩])
      have HR1:=(show Hid _ from hr1)
      have HR2:=(show Hid _ from hr2)
      clear hxs hxs' hk hwa hsne fin hr1 hr2 hq hq0 hql hdr hy0 h13
      gi_wp2
      refine⟨trivial,(hidx _).mono ?_⟩
      clear hidx
      rintro e w' ⟨rfl,rfl⟩
      gi_wp2
      refine hRd.mono ?_
      rintro e W3 (⟨rfl,hJ3,hX3⟩|⟨rfl,hJx3⟩)
      ·gi_wp2
       go_roundw
       case rel=>exact⟨a+q+1,n+1,by push_cast;rfl,by omega,by omega,hJ3,HR1.out,HR2.out⟩
       case measure=>simp[intOf];omega
      ·gi_wp2
       refine bodyPost_ret (results_none rfl _ _ _) rfl ?_
       exact⟨⟨_,rfl⟩, .inr hJx3⟩
     ·have h13' :y.toNat≠13:=fun e=>h13 (UInt8.toNat_inj.1 e)
      have hq13:((y.toNat:Int)==13)=false:=beq_eq_false_iff_ne.2 (by omega)
      obtain⟨hr1,hr2,fn,tmps,assign,body,hy,hRd⟩:=fin (a+q) (a+q+1) (a+q) (a+q+1) _ (by omega) (by omega) (by rw[hxs',if_neg (by rw[hy0];simp;intro _;exact h13)])
      have HR1:=(show Hid _ from hr1)
      have HR2:=(show Hid _ from hr2)
      clear hxs hxs' hk hwa hsne fin hr1 hr2 hq hq0 hql hdr hy0 h13
      gi_wp2
      refine⟨trivial,(hidx _).mono ?_⟩
      clear hidx
      rintro e w' ⟨rfl,rfl⟩
      gi_wp2
      refine hRd.mono ?_
      rintro e W3 (⟨rfl,hJ3,hX3⟩|⟨rfl,hJx3⟩)
      ·gi_wp2
       go_roundw
       case rel=>exact⟨a+q+1,n+1,by push_cast;rfl,by omega,by omega,hJ3,HR1.out,HR2.out⟩
       case measure=>simp[intOf];omega
      ·gi_wp2
       refine bodyPost_ret (results_none rfl _ _ _) rfl ?_
       exact⟨⟨_,rfl⟩, .inr hJx3⟩
    ·have z2:¬(0:Int)<(q:Int):=by omega
     obtain⟨hr1,hr2,fn,tmps,assign,body,hy,hRd⟩:=fin (a+q) (a+q+1) (a+q) (a+q+1) _ (by omega) (by omega) (by rw[hxs',if_neg (fun h=>hq1 h.1)])
     have HR1:=(show Hid _ from hr1)
     have HR2:=(show Hid _ from hr2)
     clear hxs hxs' hk hwa hsne fin hr1 hr2 hq hq0 hql hdr
     gi_wp2
     refine⟨trivial,(hidx _).mono ?_⟩
     clear hidx
     rintro e w' ⟨rfl,rfl⟩
     gi_wp2
     refine hRd.mono ?_
     rintro e W3 (⟨rfl,hJ3,hX3⟩|⟨rfl,hJx3⟩)
     ·gi_wp2
      go_roundw
      case rel=>exact⟨a+q+1,n+1,by push_cast;rfl,by omega,by omega,hJ3,HR1.out,HR2.out⟩
      case measure=>simp[intOf];omega
     ·gi_wp2
      refine bodyPost_ret (results_none rfl _ _ _) rfl ?_
      exact⟨⟨_,rfl⟩, .inr hJx3⟩
  ·have hltz:¬((a:Int)<(to:Int)):=by omega
   gi_wp2
   go_end0
   obtain rfl:a=to:=by omega
   have h1:=HX.out.1
   have h3:(bs.take a).drop a=[]:=by simp
   rw[h3,sD]at h1
   have h2:(cG fr ((bs.take a).drop fr)).length≤n:=List.drop_eq_nil_iff.1 h1.symm
   have h4:=HX.out.2
   have:n=(cG fr ((bs.take a).drop fr)).length:=by omega
   rw[←this]
   exact⟨⟨_,rfl⟩, .inl hJ⟩
theorem zM (base:World) (S B b off cap fr to:Nat) (bs:List UInt8) (hft:fr≤to) (htl:to≤bs.length) (hcap:bs.length≤cap) (hmax:bs.length≤9223372036854775000)
  (hs0:base.cell? ⟨S,0,none⟩=some (.int .i64 fr)) (hs1:base.cell? ⟨S,1,none⟩=some (.int .i64 to)) (hb0:base.cell? ⟨B,0,none⟩=some (.slice (some ⟨b,off,none⟩) bs.length cap))
  (hc:∀j x,bs[j]? =some x→base.cell? ⟨b,off+j,none⟩=some (.int .u8 x.toNat)):
  xK Tryz.prog 123 #[.pointer (some ⟨S,0,none⟩), .pointer (some ⟨B,0,none⟩)] fZ (cG fr ((bs.take to).drop fr)) base:=
 (qI (fun _=>False) base S B b off cap fr to bs id id id hft htl hcap hmax hs0 hs1 hb0 hc).tells
end Go.Proofs.YtdoaoaicdimbeaaGreatDoor
end
section
namespace Go.Proofs.YtdoaoaicdimbeaaGreatDoor
open Go.RowKit Go.Shelf Go.Rg
set_option maxRecDepth 100000 in
set_option maxHeartbeats 1000000 in
theorem sE (X:Nat→Prop) (base:World) (S:Nat) (x:Value) (hXS:¬X S) (fr to:Int) (hft:¬fr<to)
  (hs0:base.cell? ⟨S,0,none⟩=some (.int .i64 fr)) (hs1:base.cell? ⟨S,1,none⟩=some (.int .i64 to)):
  sC X Tryz.prog 123 #[.pointer (some ⟨S,0,none⟩),x] fZ [] base:=by
 intro l J Jx T W hab hR h0
 have hob:=hab.old 0 W h0
 have hS:S<base.heap.size:=World.block_lt_of_cell? base _ hs0
 have hS0:W.cell? ⟨S,0,none⟩=some (.int .i64 fr):=(hob.cell (p:=⟨S,0,none⟩) hS hXS).trans hs0
 have hS1:W.cell? ⟨S,1,none⟩=some (.int .i64 to):=(hob.cell (p:=⟨S,1,none⟩) hS hXS).trans hs1
 refine callsIn_of_wp Tryz.func123 rfl trivial ?_ rfl
 simp only[Tryz.ntmps123,List.size_toArray,List.length_cons,List.length_nil,Nat.reduceAdd,Nat.reduceSub,Array.replicate_succ,Array.replicate_zero,List.push_toArray,List.append_toArray,List.nil_append,List.cons_append]
 gi_wp2
 gi_loopw [4] (fun i wr=>i= .int .i64 fr∧wr=W) (fun _ _=>0)
 case atStart=>exact⟨rfl,rfl⟩
 case round=>
  obtain⟨rfl,rfl⟩:=hrel
  gi_wp2
  go_end0
  exact⟨⟨_,rfl⟩, .inl h0⟩
theorem A6 (base:World) (S:Nat) (x:Value) (fr to:Int) (hft:¬fr<to)
  (hs0:base.cell? ⟨S,0,none⟩=some (.int .i64 fr)) (hs1:base.cell? ⟨S,1,none⟩=some (.int .i64 to)):
  xK Tryz.prog 123 #[.pointer (some ⟨S,0,none⟩),x] fZ [] base:=
 (sE (fun _=>False) base S x id fr to hft hs0 hs1).tells
set_option maxHeartbeats 1000000 in
theorem Ec (x:Value) (fr to:Int) (w:World) (hx:∃a l c,x= .slice a l c):Calls Tryz.prog 90 #[x, .agg #[.int .i64 fr, .int .i64 to]] w fun e w' =>
  e= .returned (.func (.func 123) #[] #[.pointer (some ⟨w.heap.size+1,0,none⟩), .pointer (some ⟨w.heap.size,0,none⟩)])∧w' =(w.alloc (.cells #[x] 40)).alloc (.cells #[.int .i64 fr, .int .i64 to] 32):=by
 obtain⟨a,l,c,rfl⟩:=hx
 go_enter Tryz.func90,Tryz.ntmps90
 go_wp2
 go_ret
 exact⟨rfl,rfl⟩
set_option maxHeartbeats 1000000 in
theorem sF (fr to n:Int) (w:World):Calls Tryz.prog 74 #[.agg #[.int .i64 fr, .int .i64 to], .int .i64 n] w fun e w' =>
  e= .returned (.bool (decide (0≤fr∧fr≤to∧to≤n)))∧w' =w.alloc (.cells #[.int .i64 fr, .int .i64 to] 32):=by
 by_cases h1:0≤fr
 ·by_cases h2:fr≤to
  ·by_cases h3:to≤n
   ·have e:decide (0≤fr∧fr≤to∧to≤n)=true:=by simp[h1,h2,h3]
    rw[e]
    go_enter Tryz.func74,Tryz.ntmps74
    go_wp2
    go_ret
    exact⟨rfl,rfl⟩
   ·have e:decide (0≤fr∧fr≤to∧to≤n)=false:=by simp[h3]
    rw[e]
    go_enter Tryz.func74,Tryz.ntmps74
    go_wp2
    go_ret
    exact⟨rfl,rfl⟩
  ·have e:decide (0≤fr∧fr≤to∧to≤n)=false:=by simp[h2]
   rw[e]
   go_enter Tryz.func74,Tryz.ntmps74
   go_wp2
   go_ret
   exact⟨rfl,rfl⟩
 ·have e:decide (0≤fr∧fr≤to∧to≤n)=false:=by simp[h1]
  rw[e]
  go_enter Tryz.func74,Tryz.ntmps74
  go_wp2
  go_ret
  exact⟨rfl,rfl⟩
theorem gV (W:World) (cs:Array Value) (t:TypeId) (n i:Nat) (v:Value) (h:W.heap.size=n) (hv:cs[i]? =some v):(W.alloc (.cells cs t)).cell? ⟨n,i,none⟩=some v:=by
 subst h
 have:=World.alloc_heap_new W (.cells cs t)
 simp only[World.cell?,this]
 exact hv
theorem mZ:∀(n a:Nat) (s:List UInt8),(iJ n a s).length≤s.length
 |0,a,s=>by simp[iJ]
 |n+1,a,s=>by
  unfold iJ
  split
  ·simp
  ·rename_i hs
   have hp:0<s.length:=List.length_pos_iff.2 hs
   split
   ·simp;omega
   ·have:=mZ n (a+(Lib.indexByte s 10).toNat+1) (s.drop ((Lib.indexByte s 10).toNat+1))
    rw[List.length_drop]at this
    simp only[List.length_cons]
    omega
def bQ (fr to:Int) (bs:List UInt8):List (Nat×Nat×Nat):=if 0≤fr∧fr≤to∧to≤bs.length then cG fr.toNat ((bs.take to.toNat).drop fr.toNat)else[]
theorem lS (fr to:Int) (bs:List UInt8):(bQ fr to bs).length≤bs.length:=by
 unfold bQ
 split
 ·exact Nat.le_trans (mZ _ _ _) (by simp;omega)
 ·simp
set_option maxRecDepth 100000 in
set_option maxHeartbeats 1000000 in
theorem GA (a:Option Addr) (cap:Nat) (bs:List UInt8) (fr to:Int) (w:World) (hcap:bs.length≤cap) (ha:a=none→cap=0) (hmax:bs.length<1099511627776)
  (hc:∀p,a=some p→bs≠[]→p.spot=none∧∀j x,bs[j]? =some x→w.cell? ⟨p.block,p.off+j,none⟩=some (.int .u8 x.toNat)):
  Calls Tryz.prog 62 #[.slice a bs.length cap, .agg #[.int .i64 fr, .int .i64 to]] w fun e w' =>
   ∃v:Value,e= .returned v∧w'.ownsRow w.heap.size 134 3 v (bQ fr to bs).length (eF (bQ fr to bs))∧Below w.heap.size w w' :=by
 have HC:Aside (∀p,a=some p→bs≠[]→p.spot=none∧∀j x,bs[j]? =some x→w.cell? ⟨p.block,p.off+j,none⟩=some (.int .u8 x.toNat)):=hc
 clear hc
 by_cases hin:0≤fr∧fr≤to∧to≤bs.length
 ·have hd:decide (0≤fr∧fr≤to∧to≤(bs.length:Int))=true:=by simpa using hin
  have hl:bQ fr to bs=cG fr.toNat ((bs.take to.toNat).drop fr.toNat):=by unfold bQ;rw[if_pos hin]
  have hlen:=lS fr to bs
  go_enter Tryz.func62,Tryz.ntmps62
  go_wp2_with (first
   |(go_at_call 74;refine(sF fr to _ _).mono ?_;rintro e w' ⟨rfl,hw⟩;rw[hw,hd])
   |(go_at_call 90;refine(Ec _ fr to _ ⟨_,_,_,rfl⟩).mono ?_;rintro e w' ⟨rfl,hw⟩;rw[hw])
   |(go_at_call 101;refine(collect_in 123 _ (enters_of Tryz.func123 (by kernel_rfl) rfl) (bQ fr to bs) ?c1 ?c2 _ ?c3).mono ?_))
  case c1=>unfold maxLen;omega
  case c2=>omega
  case c3=>
   generalize hW:(((w.alloc (Obj.cells #[Value.int IntKind.i64 fr,Value.int IntKind.i64 to] 32)).alloc (Obj.cells #[Value.int IntKind.i64 fr,Value.int IntKind.i64 to] 32)).alloc (Obj.cells #[Value.slice a bs.length cap] 40)).alloc (Obj.cells #[Value.int IntKind.i64 fr,Value.int IntKind.i64 to] 32)=W
   have s0:W.cell? ⟨w.heap.size+1+1+1,0,none⟩=some (.int .i64 fr):=by rw[←hW];exact gV _ _ _ _ _ _ (by simp) rfl
   have s1:W.cell? ⟨w.heap.size+1+1+1,1,none⟩=some (.int .i64 to):=by rw[←hW];exact gV _ _ _ _ _ _ (by simp) rfl
   have b0:W.cell? ⟨w.heap.size+1+1,0,none⟩=some (.slice a bs.length cap):=by
    rw[←hW]
    refine(World.cell?_of_block (Below.heap_alloc _ _ _ (by simp))).trans ?_
    exact gV _ _ _ _ _ _ (by simp) rfl
   have hold:∀k,k<w.heap.size→W.heap[k]? =w.heap[k]? :=fun k hk=>by
    rw[←hW]
    exact(Below.heap_alloc _ _ k (by simp;omega)).trans ((Below.heap_alloc _ _ k (by simp;omega)).trans ((Below.heap_alloc _ _ k (by simp;omega)).trans (Below.heap_alloc _ _ k hk)))
   by_cases hft:fr<to
   ·have hbne:bs≠[]:=fun e=>by rw[e]at hin;simp at hin;omega
    cases ha0:a with
    |none=>have:=ha ha0;have:=List.length_pos_iff.2 hbne;omega
    |some p=>
     obtain⟨hp1,hp2⟩:=HC.out p ha0 hbne
     obtain⟨pb,po,ps⟩:=p
     simp only at hp1 hp2
     subst hp1
     rw[ha0]at b0
     obtain⟨F,hF⟩:∃F:Nat,fr=F:=⟨fr.toNat,by omega⟩
     obtain⟨E,hE⟩:∃E:Nat,to=E:=⟨to.toNat,by omega⟩
     rw[hl,hF,hE]
     rw[hF]at s0
     rw[hE]at s1
     exact zM W (w.heap.size+1+1+1) (w.heap.size+1+1) pb po cap F E bs (by omega) (by omega) hcap (by omega) s0 s1 b0 (fun j x hx=>by
      have h1:=hp2 j x hx
      have h2:=hold pb (World.block_lt_of_cell? w _ h1)
      simp only[World.cell?]at h1 ⊢
      rw[h2];exact h1)
   ·have he:bQ fr to bs=[]:=by
     rw[hl]
     have:fr=to:=by omega
     rw[this]
     have h3:(bs.take to.toNat).drop to.toNat=[]:=by simp
     rw[h3];rfl
    rw[he]
    exact A6 W _ _ fr to hft s0 s1
  rintro e w' ⟨v,rfl,hrow,hb⟩
  go_wp2
  go_ret
  refine⟨v,rfl,ownsRow_base hrow (by simp;omega),?_⟩
  refine Below.trans ?_ (hb.mono (by simp;omega))
  exact((((Below.refl _ w).alloc (Nat.le_refl _) _).alloc (by simp) _).alloc (by simp;omega) _).alloc (by simp;omega) _
 ·have hd:decide (0≤fr∧fr≤to∧to≤(bs.length:Int))=false:=by simpa using hin
  have hl:bQ fr to bs=[]:=by unfold bQ;rw[if_neg hin]
  rw[hl]
  go_enter Tryz.func62,Tryz.ntmps62
  go_wp2_with (first
   |(go_at_call 74;refine(sF fr to _ _).mono ?_;rintro e w' ⟨rfl,hw⟩;rw[hw,hd]))
  go_ret
  exact⟨.slice none 0 0,rfl,World.ownsRow_nil _ _ _ _,((Below.refl _ w).alloc (Nat.le_refl _) _).alloc (by simp) _⟩
end Go.Proofs.YtdoaoaicdimbeaaGreatDoor
end
section
namespace Go.Proofs.YtdoaoaicdimbeaaGreatDoor
open Go.RowKit Go.Shelf Go.Rg
attribute [local go_sem] Oper.semAt_some
structure xO (base:World) (rec:Loop) (A l D:Nat) (n:Nat) (W:World):Prop where
 at_:Boxed W A 3 (.int .i64 n)
 L:W.heap[l]? =some (.loop rec)
 K:W.heap[D]? =some (.deferred (some []))
 old:C3 (· =A) base W
 below:Below 0 base W
def C4 (A l D:Nat) (W:World) (r:Nat):Prop:=r<W.heap.size∧(r=A∨r=l∨r=D)
theorem xO.grown {base:World} {rec:Loop} {A l D:Nat} {n:Nat} {W W' :World} {row:Option Nat} (h:xO base rec A l D n W) (hg:W.grownBy W' row) (hr:∀r,row=some r→base.heap.size≤r∧r≠A∧r≠l∧r≠D):xO base rec A l D n W' :=
 ⟨h.at_.kept hg (fun e=>(hr A e.symm).2.1 rfl),(hg.block l (Array.getElem?_eq_some_iff.1 h.L).1 (fun e=>(hr l e.symm).2.2.1 rfl)).trans h.L,
  (hg.block D (Array.getElem?_eq_some_iff.1 h.K).1 (fun e=>(hr D e.symm).2.2.2 rfl)).trans h.K,
  ⟨Nat.le_trans h.old.size hg.size,fun b hb hx=>(hg.block b (Nat.lt_of_lt_of_le hb h.old.size) (fun e=>by have:=(hr b e.symm).1;omega)).trans (h.old.block b hb hx)⟩,h.below.grown hg (Nat.zero_le _) (fun _ _=>Nat.zero_le _)⟩
theorem cnt_abides (base:World) (rec:Loop) (A l D:Nat):Aq (· =A) base (fun i W=>xO base rec A l D i W) (C4 A l D) where
 step:=by
  intro i W W' row h hg hrow
  have k2:=h.at_.lt
  have k3:=(Array.getElem?_eq_some_iff.1 h.L).1
  have k4:=(Array.getElem?_eq_some_iff.1 h.K).1
  refine⟨h.grown hg fun r e=>⟨(hrow r e).1,?_,?_,?_⟩,?_⟩
  ·intro e';subst e';exact(hrow _ e).2 ⟨k2, .inl rfl⟩
  ·intro e';subst e';exact(hrow _ e).2 ⟨k3, .inr (.inl rfl)⟩
  ·intro e';subst e';exact(hrow _ e).2 ⟨k4, .inr (.inr rfl)⟩
  ·rintro r ⟨_,rfl|rfl|rfl⟩
   ·exact⟨k2, .inl rfl⟩
   ·exact⟨k3, .inr (.inl rfl)⟩
   ·exact⟨k4, .inr (.inr rfl)⟩
 lt:=fun i W r _ ht=>ht.1
 old:=fun i W h=>h.old
set_option maxRecDepth 100000 in
set_option maxHeartbeats 2000000 in
theorem B1 (a:Option Addr) (cap:Nat) (bs:List UInt8) (fr to:Int) (w:World) (hcap:bs.length≤cap) (ha:a=none→cap=0) (hmax:bs.length<1099511627776)
  (hc:∀p,a=some p→bs≠[]→p.spot=none∧∀j x,bs[j]? =some x→w.cell? ⟨p.block,p.off+j,none⟩=some (.int .u8 x.toNat)):
  CallsIn Fence.wide 2 Tryz.prog 48 #[.slice a bs.length cap, .agg #[.int .i64 fr, .int .i64 to]] w fun e w' =>
   e= .returned (.int .i64 (bQ fr to bs).length)∧Below w.heap.size w w' :=by
 have HC:Aside (∀p,a=some p→bs≠[]→p.spot=none∧∀j x,bs[j]? =some x→w.cell? ⟨p.block,p.off+j,none⟩=some (.int .u8 x.toNat)):=hc
 clear hc
 have HR:Aside ((¬(0≤fr∧fr≤to∧to≤bs.length)→bQ fr to bs=[])∧True):=⟨fun h=>by unfold bQ;rw[if_neg h],trivial⟩
 refine callsIn_of_wp_marks Tryz.func48 rfl trivial ?_ rfl
 simp only[Tryz.ntmps48,List.size_toArray,List.length_cons,List.length_nil,Nat.reduceAdd,Nat.reduceSub,Array.replicate_succ,Array.replicate_zero,List.push_toArray,List.append_toArray,List.nil_append,List.cons_append]
 gi_wp2
 refine⟨trivial,(callsIn_wide.2 (sF fr to _ _)).mono ?_⟩
 rintro e w1 ⟨rfl,hw1⟩
 by_cases hin:0≤fr∧fr≤to∧to≤bs.length
 ·have hd:decide (0≤fr∧fr≤to∧to≤(bs.length:Int))=true:=by simpa using hin
  rw[hw1,hd]
  clear hw1
  gi_wp2
  refine⟨trivial,(callsIn_wide.2 (Ec _ fr to _ ⟨_,_,_,rfl⟩)).mono ?_⟩
  rintro e w2 ⟨rfl,hw2⟩
  rw[hw2]
  clear hw2
  gi_wp2
  obtain⟨W0,hW0⟩:∃W0,(((((w.alloc (Obj.cells #[Value.int IntKind.i64 fr,Value.int IntKind.i64 to] 32)).alloc (Obj.cells #[Value.int IntKind.i64 0] 3)).alloc (Obj.cells #[Value.int IntKind.i64 fr,Value.int IntKind.i64 to] 32)).alloc (Obj.cells #[Value.slice a bs.length cap] 40)).alloc (Obj.cells #[Value.int IntKind.i64 fr,Value.int IntKind.i64 to] 32))=W0:=⟨_,rfl⟩
  rw[hW0]
  refine pQ rfl (by decide) (gf:=123) (lb:=#[.pointer (some ⟨w.heap.size+1+1+1+1,0,none⟩), .pointer (some ⟨w.heap.size+1+1+1,0,none⟩)]) rfl trivial (enters_of Tryz.func123 (by kernel_rfl) rfl) ?_
  intro fn rec W1 hrec hW1
  have hlen:=lS fr to bs
  have hz0:W0.heap.size=w.heap.size+5:=by rw[←hW0];simp
  have hold:∀k,k<w.heap.size→W0.heap[k]? =w.heap[k]? :=fun k hk=>by
   rw[←hW0]
   exact(Below.heap_alloc _ _ k (by simp;omega)).trans ((Below.heap_alloc _ _ k (by simp;omega)).trans ((Below.heap_alloc _ _ k (by simp;omega)).trans ((Below.heap_alloc _ _ k (by simp;omega)).trans (Below.heap_alloc _ _ k hk))))
  have hb0w:Below w.heap.size w W0:=by
   rw[←hW0]
   exact(((((Below.refl _ w).alloc (Nat.le_refl _) _).alloc (by simp) _).alloc (by simp;omega) _).alloc (by simp;omega) _).alloc (by simp;omega) _
  have hA0:W0.heap[w.heap.size+1]? =some (.cells #[.int .i64 0] 3 (0,0)):=by
   rw[←hW0]
   refine(Below.heap_alloc _ _ _ (by simp)).trans ((Below.heap_alloc _ _ _ (by simp)).trans ((Below.heap_alloc _ _ _ (by simp)).trans ?_))
   have:=World.alloc_heap_new (w.alloc (Obj.cells #[Value.int IntKind.i64 fr,Value.int IntKind.i64 to] 32)) (.cells #[.int .i64 0] 3)
   rwa [World.size_alloc]at this
  have s0:W0.cell? ⟨w.heap.size+1+1+1+1,0,none⟩=some (.int .i64 fr):=by rw[←hW0];exact gV _ _ _ _ _ _ (by simp) rfl
  have s1:W0.cell? ⟨w.heap.size+1+1+1+1,1,none⟩=some (.int .i64 to):=by rw[←hW0];exact gV _ _ _ _ _ _ (by simp) rfl
  have b0:W0.cell? ⟨w.heap.size+1+1+1,0,none⟩=some (.slice a bs.length cap):=by
   rw[←hW0]
   refine(World.cell?_of_block (Below.heap_alloc _ _ _ (by simp))).trans ?_
   exact gV _ _ _ _ _ _ (by simp) rfl
  have hT:sC (· =w.heap.size+1) Tryz.prog 123 #[.pointer (some ⟨w.heap.size+1+1+1+1,0,none⟩), .pointer (some ⟨w.heap.size+1+1+1,0,none⟩)] fZ (bQ fr to bs) W0:=by
   have hl:bQ fr to bs=cG fr.toNat ((bs.take to.toNat).drop fr.toNat):=by unfold bQ;rw[if_pos hin]
   by_cases hft:fr<to
   ·have hbne:bs≠[]:=fun e=>by rw[e]at hin;simp at hin;omega
    cases ha0:a with
    |none=>have:=ha ha0;have:=List.length_pos_iff.2 hbne;omega
    |some p=>
     obtain⟨hp1,hp2⟩:=HC.out p ha0 hbne
     obtain⟨pb,po,ps⟩:=p
     simp only at hp1 hp2
     subst hp1
     rw[ha0]at b0
     obtain⟨F,hF⟩:∃F:Nat,fr=F:=⟨fr.toNat,by omega⟩
     obtain⟨E,hE⟩:∃E:Nat,to=E:=⟨to.toNat,by omega⟩
     rw[hl,hF,hE]
     rw[hF]at s0
     rw[hE]at s1
     have hpl:pb<w.heap.size:=by
      obtain⟨x,hx⟩:∃x,bs[0]? =some x:=⟨bs[0]'(List.length_pos_iff.2 hbne),by simp[List.length_pos_iff.2 hbne]⟩
      exact World.block_lt_of_cell? w _ (hp2 0 x hx)
     exact qI _ W0 (w.heap.size+1+1+1+1) (w.heap.size+1+1+1) pb po cap F E bs (by omega) (by omega) (by omega) (by omega) (by omega) hcap (by omega) s0 s1 b0 (fun j x hx=>by
      have h1:=hp2 j x hx
      have h2:=hold pb hpl
      simp only[World.cell?]at h1 ⊢
      rw[h2];exact h1)
   ·have he:bQ fr to bs=[]:=by
     rw[hl]
     have:fr=to:=by omega
     rw[this]
     have h3:(bs.take to.toNat).drop to.toNat=[]:=by simp
     rw[h3];rfl
    rw[he]
    exact sE _ W0 _ _ (by omega) fr to hft s0 s1
  have hl1:W1.heap[W0.heap.size+1]? =some (.loop rec):=by
   rw[hW1]
   have:=World.alloc_heap_new (W0.alloc (.deferred (some []))) (.loop rec)
   rwa [World.size_alloc]at this
  have hk1:W1.heap[W0.heap.size]? =some (.deferred (some [])):=by
   rw[hW1]
   exact(Below.heap_alloc _ _ _ (by simp)).trans (World.alloc_heap_new W0 _)
  have hb1:Below W0.heap.size W0 W1:=by rw[hW1];exact((Below.refl _ W0).alloc (Nat.le_refl _) _).alloc (by simp) _
  have hI0:xO W0 rec (w.heap.size+1) (W0.heap.size+1) W0.heap.size 0 W1:=
   ⟨(hb1.block _ (by omega)).trans hA0,hl1,hk1,⟨hb1.size,fun b hb _=>hb1.block b hb⟩,hb1.mono (Nat.zero_le _)⟩
  have hrs:rec.state= .ready:=by rw[hrec]
  have hrp:rec.pending=none:=by rw[hrec]
  clear hW1 hb1 hl1 hk1 hA0 s0 s1 b0 hold
  clear hW0
  refine(hT (W0.heap.size+1) (fun i W=>xO W0 rec (w.heap.size+1) (W0.heap.size+1) W0.heap.size i W) (fun _=>False) (C4 (w.heap.size+1) (W0.heap.size+1) W0.heap.size) W1 (cnt_abides _ _ _ _ _) ?_ hI0).mono ?_
  ·intro i x W hx hI
   have hi:=(List.getElem?_eq_some_iff.1 hx).1
   clear hx hT hI0 HC HR
   suffices H:∀Q:Ending→World→Prop,(∀W',xO W0 rec (w.heap.size+1) (W0.heap.size+1) W0.heap.size (i+1) W'→Go.Rg.Kept (C4 (w.heap.size+1) (W0.heap.size+1) W0.heap.size) W W'→Q (.returned (.bool true)) W')→YieldAt Fence.wide 0 Tryz.prog (W0.heap.size+1) #[fZ x] W Q from
    H _ (fun W' h1 h2=> .inl ⟨rfl,h1,h2⟩)
   intro Q hQ
   have hyl:=run_yield (P:=Tryz.prog) (args:=#[fZ x]) hI.L (by rw[hrec];rfl)
   have hid:({ { rec with state:= .busy } with state:=if(none:Option Code).isNone then .ready else .done,pending:=none }:Loop)=rec:=by rw[hrec];rfl
   have hll:W0.heap.size+1<W.heap.size:=(Array.getElem?_eq_some_iff.1 hI.L).1
   have hkl:W0.heap.size<W.heap.size:=(Array.getElem?_eq_some_iff.1 hI.K).1
   have hal:=hI.at_.lt
   have hbr:=run_beginRound (P:=Tryz.prog) hI.L hrs
   obtain⟨W2,hW2⟩:∃W2,W.putObj (W0.heap.size+1) (.loop { rec with state:= .busy })=W2:=⟨_,rfl⟩
   rw[hW2]at hbr
   have hg2:W.grownBy W2 (some (W0.heap.size+1)):=by rw[←hW2];exact grownBy_putObj _ _ _
   have ha2:Boxed W2 (w.heap.size+1) 3 (.int .i64 i):=hI.at_.kept hg2 (by simp;omega)
   have hL2:W2.heap[W0.heap.size+1]? =some (.loop { rec with state:= .busy }):=by rw[←hW2];exact World.putObj_heap_same hll
   have hK2:W2.heap[W0.heap.size]? =some (.deferred (some [])):=(hg2.block _ hkl (by simp)).trans hI.K
   have hg4:=grownBy_setCell W2 ⟨w.heap.size+1,0,none⟩ (.int .i64 ((i:Int)+1))
   have hL4:(W2.setCell ⟨w.heap.size+1,0,none⟩ (.int .i64 ((i:Int)+1))).heap[W0.heap.size+1]? =some (.loop { rec with state:= .busy }):=
    (hg4.block _ (Array.getElem?_eq_some_iff.1 hL2).1 (by simp;omega)).trans hL2
   have hK4:(W2.setCell ⟨w.heap.size+1,0,none⟩ (.int .i64 ((i:Int)+1))).heap[W0.heap.size]? =some (.deferred (some [])):=
    (hg4.block _ (Array.getElem?_eq_some_iff.1 hK2).1 (by simp;omega)).trans hK2
   have her:=run_endRound (P:=Tryz.prog) none hL4
   have hg5:=grownBy_putObj (W2.setCell ⟨w.heap.size+1,0,none⟩ (.int .i64 ((i:Int)+1))) (W0.heap.size+1) (.loop { { rec with state:= .busy } with state:=if(none:Option Code).isNone then .ready else .done,pending:=none })
   have hfin:xO W0 rec (w.heap.size+1) (W0.heap.size+1) W0.heap.size (i+1) ((W2.setCell ⟨w.heap.size+1,0,none⟩ (.int .i64 ((i:Int)+1))).putObj (W0.heap.size+1) (.loop { { rec with state:= .busy } with state:=if(none:Option Code).isNone then .ready else .done,pending:=none })):=by
    have l5:=World.putObj_heap_same (o:= .loop { { rec with state:= .busy } with state:=if(none:Option Code).isNone then .ready else .done,pending:=none }) (Array.getElem?_eq_some_iff.1 hL4).1
    refine⟨(ha2.set _).kept hg5 (by simp;omega),?_,(hg5.block _ (Array.getElem?_eq_some_iff.1 hK4).1 (by simp)).trans hK4,⟨Nat.le_trans hI.old.size (Nat.le_trans hg2.size (Nat.le_trans hg4.size hg5.size)),fun b hb hx=>?_⟩,
     ((hI.below.grown hg2 (Nat.zero_le _) (fun _ _=>Nat.zero_le _)).grown hg4 (Nat.zero_le _) (fun _ _=>Nat.zero_le _)).grown hg5 (Nat.zero_le _) (fun _ _=>Nat.zero_le _)⟩
    ·rw[hid]at l5 ⊢;exact l5
    ·have b1:=Nat.lt_of_lt_of_le hb hI.old.size
     have b2:=Nat.lt_of_lt_of_le b1 hg2.size
     have b4:=Nat.lt_of_lt_of_le b2 hg4.size
     exact(hg5.block b b4 (by simp;omega)).trans ((hg4.block b b2 (by simpa using hx)).trans ((hg2.block b b1 (by simp;omega)).trans (hI.old.block b hb hx)))
   have hkept:Go.Rg.Kept (C4 (w.heap.size+1) (W0.heap.size+1) W0.heap.size) W ((W2.setCell ⟨w.heap.size+1,0,none⟩ (.int .i64 ((i:Int)+1))).putObj (W0.heap.size+1) (.loop { { rec with state:= .busy } with state:=if(none:Option Code).isNone then .ready else .done,pending:=none })):=by
    refine⟨Nat.le_trans hg2.size (Nat.le_trans hg4.size hg5.size),fun j hj hTj=>?_⟩
    have hjA:j≠w.heap.size+1:=fun e=>hTj ⟨hj, .inl e⟩
    have hjl:j≠W0.heap.size+1:=fun e=>hTj ⟨hj, .inr (.inl e)⟩
    have hjD:j≠W0.heap.size:=fun e=>hTj ⟨hj, .inr (.inr e)⟩
    have b2:=Nat.lt_of_lt_of_le hj hg2.size
    have b4:=Nat.lt_of_lt_of_le b2 hg4.size
    refine⟨(hg5.block j b4 (by simpa using hjl)).trans ((hg4.block j b2 (by simpa using hjA)).trans (hg2.block j hj (by simpa using hjl))),?_⟩
    rintro⟨_,e|e|e⟩
    ·exact hjA e
    ·exact hjl e
    ·exact hjD e
   have FIN:Hid (∃v w',(Instr.endRound (W0.heap.size+1) none).run Tryz.prog (W2.setCell ⟨w.heap.size+1,0,none⟩ (.int .i64 ((i:Int)+1)))= .ok v w'∧Q (.returned v) w'):=
    ⟨_,_,her,hQ _ hfin hkept⟩
   have hwr:IntKind.wrap .i64 ((i:Int)+1)=(i:Int)+1:=by
    rw[IntKind.wrap_i64];omega
   have r1:=ha2.cell
   have r2:=ha2.frozen
   clear hQ hfin hkept her hg5 hL4 hK4 hg4 hg2 hW2 hI hL2 hK2 ha2 hid
   obtain⟨tm,hys⟩:∃tm,(rec.params.zip #[fZ x]).foldl (fun tmps (t,a)=>tmps.setIfInBounds t a) rec.tmps=tm:=⟨_,rfl⟩
   rw[hys]at hyl
   refine⟨rec.fn,tm,rec.assign,rec.body,hyl,roundIn_of_wpIn trivial ?_⟩
   obtain rfl:tm= #[.slice a bs.length cap, .agg #[.int .i64 fr, .int .i64 to],undef, .pointer (some ⟨w.heap.size,0,none⟩), .int .i64 0, .pointer (some ⟨w.heap.size+1,0,none⟩), .agg #[.int .i64 fr, .int .i64 to], .slice a bs.length cap, .int .i64 bs.length, .bool true, .bool false, .slice a bs.length cap, .agg #[.int .i64 fr, .int .i64 to],
     .func (.func 123) #[] #[.pointer (some ⟨w.heap.size+1+1+1+1,0,none⟩), .pointer (some ⟨w.heap.size+1+1+1,0,none⟩)],fZ x,undef,undef,undef]:=by rw[←hys,hrec];simp
   clear hys
   have hbody:=congrArg Loop.body hrec
   have hassign:=congrArg Loop.assign hrec
   simp only at hbody hassign
   rw[hbody,hassign]
   clear hbody hassign hyl hz0
   gi_wp2
   exact FIN.out
  ·rintro e' W2 ⟨⟨v0,rfl⟩,h2⟩
   replace h2:=h2.resolve_right id
   have hend:=run_endLoop (P:=Tryz.prog) h2.L (by rw[hrs];simp)
   rw[hrp]at hend
   obtain⟨W3,hW3⟩:∃W3,W2.putObj (W0.heap.size+1) (.loop { rec with state:= .exhausted })=W3:=⟨_,rfl⟩
   rw[hrp]at hW3
   rw[hW3]at hend
   have hg3:W2.grownBy W3 (some (W0.heap.size+1)):=by rw[←hW3];exact grownBy_putObj _ _ _
   have hkl:W0.heap.size<W2.heap.size:=(Array.getElem?_eq_some_iff.1 h2.K).1
   have ha3:Boxed W3 (w.heap.size+1) 3 (.int .i64 (bQ fr to bs).length):=h2.at_.kept hg3 (by simp;omega)
   have hK3:W3.heap[W0.heap.size]? =some (.deferred (some [])):=(hg3.block _ hkl (by simp)).trans h2.K
   have hb3:Below w.heap.size w W3:=by
    refine⟨hg3.os.trans (h2.below.os.trans hb0w.os),hg3.tape.trans (h2.below.tape.trans hb0w.tape),hg3.output.trans (h2.below.output.trans hb0w.output),Nat.le_trans hb0w.size (Nat.le_trans h2.old.size hg3.size),fun k hk=>?_⟩
    have k0:k<W0.heap.size:=by omega
    exact(hg3.block k (Nat.lt_of_lt_of_le k0 h2.old.size) (by simp;omega)).trans ((h2.old.block k k0 (by omega)).trans (hb0w.block k hk))
   have r1:=ha3.cell
   have r2:=ha3.frozen
   clear hW3 h2 hT hI0 hrs hrp hrec HC HR
   refine⟨none,W3,hend,?_⟩
   have hdle:=hb0w.size
   clear hend hz0 hb0w hg3 hkl ha3
   gi_wp2
   refine⟨by simp, .inl ⟨_,_,rfl,run_takeDeferred hK3,?_⟩⟩
   exact⟨_,results_tmp rfl _ _ _,rfl,hb3.grown (grownBy_putObj _ _ _) hb3.size (fun k e=>by cases e;omega)⟩
 ·have hd:decide (0≤fr∧fr≤to∧to≤(bs.length:Int))=false:=by simpa using hin
  rw[hw1,hd]
  clear hw1
  gi_wp2
  rw[show bQ fr to bs=[]from HR.out.1 hin]
  refine⟨_,results_tmp rfl _ _ _,rfl,?_⟩
  exact(((Below.refl _ w).alloc (Nat.le_refl _) _).alloc (by simp) _).alloc (by simp;omega) _
end Go.Proofs.YtdoaoaicdimbeaaGreatDoor
end
section
namespace Go.Proofs.YtdoaoaicdimbeaaGreatDoor
open Go.Shelf Go.RowKit Go.Ev
theorem Ar:(Tryz.prog.info? 72).map (·.size)=some 2:=by kernel_rfl
theorem C5:liesAt Tryz.prog Tryz.prog.depth 72 (2 / Tryz.prog.cellsOf 72) 0 72 1=true:=by kernel_rfl
theorem byteCells:Tryz.prog.cellsOf 5=1:=by kernel_rfl
set_option maxHeartbeats 1000000 in
set_option maxRecDepth 100000 in
theorem zN (b:Nat) (w:World) (h0:w.cell? ⟨b,0,none⟩=some (.pointer (some ⟨b,0,none⟩))):
  Calls Tryz.prog 54 #[.pointer (some ⟨b,0,none⟩)] w fun e w' =>e= .returned (.tuple #[])∧w' =w:=by
 obtain⟨j,hj,_⟩:=Option.map_eq_some_iff.1 Ar
 go_enter Tryz.func54,Tryz.ntmps54
 go_wp2
 rw[Lib.run_neq_ptr_same w _ Tryz.underlying70 hj]
 go_wp2
 go_end0
 exact⟨rfl,rfl⟩
set_option maxHeartbeats 1000000 in
set_option maxRecDepth 100000 in
theorem xP (b:Nat) (w:World) (h0:w.cell? ⟨b,0,none⟩=some (.pointer none)) (hsh:w.shape? b=some (72,2)) (hfz:w.frozen? ⟨b,0,none⟩=false):
  Calls Tryz.prog 54 #[.pointer (some ⟨b,0,none⟩)] w fun e w' =>e= .returned (.tuple #[])∧w' =w.setCell ⟨b,0,none⟩ (.pointer (some ⟨b,0,none⟩)):=by
 obtain⟨j,hj,hjs⟩:=Option.map_eq_some_iff.1 Ar
 go_enter Tryz.func54,Tryz.ntmps54
 go_wp2
 rw[Lib.run_to_unsafe w ⟨b,0,none⟩ Tryz.underlying70 Tryz.underlying171 hj (by rw[hjs];decide) hsh (Nat.zero_lt_succ 1)]
 simp only[Result.andThen]
 rw[Oper.upon_value]
 go_wp2
 rw[run_callFunc_extern Tryz.func94 (by kernel_rfl) (by kernel_rfl) (by kernel_rfl) (e:=Extern.AbiNoEscape.same) (by kernel_rfl)]
 rw[Lib.run_noEscape]
 simp only[Result.andThen]
 rw[Oper.upon_value]
 go_wp2
 rw[Lib.run_from_unsafe w ⟨b,0,none⟩ Tryz.underlying171 Tryz.underlying70 hj hsh C5]
 simp only[Result.andThen]
 rw[Oper.upon_value]
 go_wp2
 go_end0
 exact⟨rfl,rfl⟩
set_option maxHeartbeats 2000000 in
set_option maxRecDepth 100000 in
theorem xQ (b g cap cells:Nat) (l:List UInt8) (w:World) (h0:l≠[]) (hc1:w.cell? ⟨b,1,none⟩=some (.slice (some ⟨g,0,none⟩) l.length cap)) (hn:l.length≤cap)
  (hsh:w.shape? g=some (5,cells)) (hcl:l.length≤cells) (hbig:l.length≤9223372036854775807) (hcell:∀j x,l[j]? =some x→w.cell? ⟨g,j,none⟩=some (.int .u8 x.toNat)):
  Calls Tryz.prog 29 #[.pointer (some ⟨b,0,none⟩)] w fun e w' =>e= .returned (.string ⟨l.toArray⟩)∧w' =w.drew.freeze ⟨g,0,none⟩ l.length:=by
 have hl0:l.length≠0:=by simpa using h0
 have c1:w.drew.cell? ⟨b,1,none⟩=some (.slice (some ⟨g,0,none⟩) l.length cap):=hc1
 have hSD:(Builtin.unsafeSliceData_ #[40] 119 #[.slice (some ⟨g,0,none⟩) l.length cap]).run Tryz.prog w.drew= .ok (.pointer (some ⟨g,0,none⟩)) w.drew:=
  Lib.run_unsafeSliceData_row _ _ _ _ _ _ (by omega)
 have hUS:(Builtin.unsafeString_ #[119,3] 9 #[.pointer (some ⟨g,0,none⟩), .int .i64 l.length]).run Tryz.prog w.drew= .ok (.string ⟨l.toArray⟩) (w.drew.freeze ⟨g,0,none⟩ l.length):=by
  refine Lib.run_unsafeString_row w.drew 119 3 9 5 Tryz.underlying119 byteCells g cells hsh l h0 hcl (by omega) ?_
  intro j x hx
  have:=hcell j x hx
  rw[Addr.add_lit,Nat.zero_add]
  exact this
 go_enter Tryz.func29,Tryz.ntmps29
 go_wp2
 go_region
 all_goals (go_wp2;go_ret;exact⟨rfl,rfl⟩)
theorem A7 {P:Program} {w:World} {b:Nat} (h:b<w.heap.size):∃r,(viewAt b).run P w= .ok r w:=by
 obtain⟨o,ho⟩:∃o,w.heap[b]? =some o:=⟨_,Array.getElem?_eq_getElem h⟩
 unfold viewAt
 cases hs:w.shape? b with
 |some sh=>exact⟨none,by simp[hs]⟩
 |none=>
  cases o with
  |cells c e fr=>simp[World.shape?,ho]at hs
  |view p t=>
   have hg:(getObj b).run P w= .ok (.view p t) w:=by simp[getObj,Sem.run,ho]
   exact⟨_,by simp[hs,hg];rfl⟩
  |_=>
   have hg:∃x,(getObj b).run P w= .ok x w∧∀p t,x≠ .view p t:=⟨_,by simp only[getObj,Sem.run,ho];exact⟨rfl,fun p t e=>by cases e⟩⟩
   obtain⟨x,hg,hx⟩:=hg
   refine⟨none,?_⟩
   simp[hs,hg]
set_option maxHeartbeats 2000000 in
set_option maxRecDepth 100000 in
theorem xR (b cap:Nat) (a:Option Addr) (w:World) (hc1:w.cell? ⟨b,1,none⟩=some (.slice a 0 cap)) (ha:∀p,a=some p→p.block<w.heap.size):
  Calls Tryz.prog 29 #[.pointer (some ⟨b,0,none⟩)] w fun e w' =>e= .returned (.string ⟨#[]⟩)∧(w' =w.drew∨∃o,w' =w.drew.alloc o):=by
 have hUS:∀q W,(Builtin.unsafeString_ #[119,3] 9 #[.pointer q, .int .i64 0]).run Tryz.prog W= .ok (.string .empty) W:=fun q W=>Lib.run_unsafeString_none W _ _ _ q
 have hbl:b<w.heap.size:=World.block_lt_of_cell? w _ hc1
 have c1:w.drew.cell? ⟨b,1,none⟩=some (.slice a 0 cap):=hc1
 have hSD:∃q W,(Builtin.unsafeSliceData_ #[40] 119 #[.slice a 0 cap]).run Tryz.prog w.drew= .ok (.pointer q) W∧(W=w.drew∨∃o,W=w.drew.alloc o):=by
  cases a with
  |none=>exact⟨none,_,rfl, .inl rfl⟩
  |some p=>
   by_cases h0:cap=0
   ·subst h0
    obtain⟨r,hr⟩:=A7 (P:=Tryz.prog) (w:=w.drew) (b:=p.block) (ha p rfl)
    have hdef:Builtin.unsafeSliceData_ #[40] 119 #[.slice (some p) 0 0]=
      (do
       if(0:Nat)≠0 then pure (.pointer (some p))
       else if(←viewAt p.block).isSome then pure (.pointer (some p))
       else pure (.pointer (some ⟨←newObj (.view p (←elemOf 119)),0,none⟩))):=rfl
    rw[hdef]
    cases r with
    |some r=>exact⟨some p,w.drew,by simp[hr], .inl rfl⟩
    |none=>exact⟨_,_,by simp[hr,elemOf,run_underlying Tryz.underlying119];exact⟨rfl,rfl⟩, .inr ⟨_,rfl⟩⟩
   ·exact⟨some p,w.drew,Lib.run_unsafeSliceData_row _ _ _ _ _ _ h0, .inl rfl⟩
 obtain⟨q,W,hSD,hW⟩:=hSD
 have c2:W.cell? ⟨b,1,none⟩=some (.slice a 0 cap):=by
  rcases hW with rfl|⟨o,rfl⟩
  ·exact c1
  ·exact(World.cell?_of_block (Below.heap_alloc w.drew o b hbl)).trans c1
 go_enter Tryz.func29,Tryz.ntmps29
 go_wp2
 go_region
 all_goals (go_wp2;go_ret;exact⟨rfl,hW⟩)
end Go.Proofs.YtdoaoaicdimbeaaGreatDoor
end
section
namespace Go.Ev
section
variable {c : Cfg} {E : Ent} {w w' : World} {G G' : Gh} {μ : List Nat} {env : List V} {tmps : List Value} {objs : List Ob}
theorem Sim.regrind (h:Sim c E w G μ env tmps objs) {g:Nat} (hg:g<E.w.heap.size→E.U g) (hfree:cnt g (aE aD env tmps)+cnt g (aF w objs μ)+μ.count g=0)
  (hk:∀k,k≠g→w'.heap[k]? =w.heap[k]?) (hcell:∀o,w'.cell? ⟨g,o,none⟩=w.cell? ⟨g,o,none⟩) (hs:w'.heap.size=w.heap.size) (hos:w'.os=w.os) (hout:w'.output=w.output) (htape:w'.tape=w.tape):
  Sim c E w' G μ env tmps objs:=by
 have hseal:gC w G w' G:=⟨fun b o _=>by
  by_cases hb:b=g
  ·subst hb;exact hcell o
  ·exact bJ (hk b hb),fun _=>Nat.le_refl _,by omega⟩
 have hμ:∀b∈μ,b≠g:=fun b hb e=>by subst e;have:=List.count_pos_iff.2 hb;omega
 have hO:aF w' objs μ=aF w objs μ:=bL objs μ fun b hb=>hk b (hμ b hb)
 have hl:∀l∈aE aD env tmps++aF w objs μ,l.a.block≠g:=fun l hl e=>by
  rw[List.mem_append]at hl
  rcases hl with hl|hl
  ·have:=bY.2 ⟨l,hl,e⟩;omega
  ·have:=bY.2 ⟨l,hl,e⟩;omega
 refine⟨⟨h.inv.len,fun i v x hv hx=>(h.inv.rep i v x hv hx).mono hseal,h.inv.olen,fun i o b ho hb=>(h.inv.obs i o b ho hb).mono hseal (hk b (hμ b (List.mem_of_getElem? hb))),
  fun b=>by rw[hO];exact h.inv.one b,fun l hl' =>?_,fun b hb=>⟨by rw[hs];exact(h.inv.mine b hb).1,(h.inv.mine b hb).2⟩,fun b hb=>h.inv.none b (by omega)⟩,
  ⟨by rw[hs];exact h.stp.size,h.stp.sealed.trans hseal,fun b hb hu=>?_,hos.trans h.stp.os,hout.trans h.stp.out,htape.trans h.stp.tape⟩,fun b hb hc=>h.own b hb (by rw[hO]at hc;exact hc),h.pre⟩
 ·rw[hO]at hl'
  exact(h.inv.ok l hl').same (hk _ (hl l hl')) rfl hseal
 ·have hne:b≠g:=fun e=>hu (by subst e;exact hg hb)
  exact⟨(hk b hne).trans (h.stp.keep b hb hu).1,(h.stp.keep b hb hu).2⟩
theorem Sim.begin_ {args:List V} {cargs:List Value} (hinv:Inv c w G μ args cargs objs):Sim c (entry w G μ args cargs objs) w G μ args cargs objs:=
 ⟨hinv,⟨Nat.le_refl _,gC.refl w G,fun _ _ _=>⟨rfl,rfl⟩,rfl,rfl,rfl⟩,fun b _ h=>h,[],by simp[entry]⟩
def checkF:Fun
 |[.ref 0 0],[.cells [.opt 0 0, .lst 5 true xs]]=>some (.tup [],[.cells [.opt 0 0, .lst 5 true xs]])
 |_,_=>none
def nA:V→Bool
 | .int .u8 n=>decide (0≤n)&&decide (n<256)
 |_=>false
theorem jQ:∀{xs:List V},xs.all nA=true→ofBytes (bytesOf xs)=xs
 |[],_=>rfl
 |v::xs,h=>by
  simp only[List.all_cons,Bool.and_eq_true]at h
  have ih:=jQ h.2
  cases v with
  |int k n=>
   cases k<;>simp[nA]at h
   simp only[bytesOf,ofBytes,List.map_cons,V.getI]at ih ⊢
   rw[ih]
   congr 2
   have:=h.1
   simp
   omega
  |_=>simp[nA]at h
def textF:Fun
 |[.ref 0 0],[.cells [.opt 0 0, .lst 5 true xs]]=>if xs.all nA&&decide (xs.length<1152921504606846976)then some (.str (bytesOf xs),[.cells [.opt 0 0, .lst 5 false xs]])else none
 |_,_=>none
end
end Go.Ev
namespace Go.Proofs.YtdoaoaicdimbeaaGreatDoor
open Go.Shelf Go.RowKit Go.Ev
theorem B2 {c:Cfg} (hP:c.P=Tryz.prog) (hb:∀t,c.bld t=true→t=72) (hcut:c.cutO 54=false)
  (hr:∀fn rsh,c.fn 54=some fn→eA c 54 fn=some rsh→gJ rsh (.tup [])=true):bP c 54 checkF:=by
 have hF:∀args objs v objs',checkF args objs=some (v,objs')→∃xs,args=[.ref 0 0]∧objs=[.cells [.opt 0 0, .lst 5 true xs]]∧v= .tup []∧objs' =objs:=by
  intro args objs v objs' h
  unfold checkF at h
  split at h
  ·cases h;exact⟨_,rfl,rfl,rfl,rfl⟩
  ·cases h
 refine⟨fun args objs v objs' _ h=>?_,fun fn rsh hfn hrsh args objs v objs' h w G μ cargs hlen hinv=>?_⟩
 ·obtain⟨_,_,_,_,e⟩:=hF _ _ _ _ h
  exact e
 ·obtain⟨xs,rfl,rfl,rfl,rfl⟩:=hF _ _ _ _ h
  refine⟨hr fn rsh hfn hrsh,?_,?_⟩
  ·simp[Cfg.osh,hcut,OSh.of,eU,OSh.fits,CSh.of,bR,CSh.fits]
  ·have hol:=hinv.olen
   obtain⟨b,rfl⟩:∃b,μ=[b]:=by
    match μ,hol with
    |[b],_=>exact⟨b,rfl⟩
   have hsim:=Sim.begin_ hinv
   obtain⟨x,rfl⟩:∃x,cargs=[x]:=by
    match cargs,hlen with
    |[x],_=>exact⟨x,rfl⟩
   obtain⟨b',hb',rfl⟩:=iZ (hinv.rep 0 _ _ rfl rfl) rfl
   simp at hb'
   subst hb'
   obtain⟨l,elem,fr,h1,h2,h3,h4,h5,h6⟩:=hinv.obs 0 _ _ rfl rfl
   have hel:=hb elem (h6 0 0 rfl)
   subst hel
   match l,h3 with
   |[x0,x1],_=>
    have hr0:=h5 0 _ x0 rfl rfl
    have fin:∀w',Sim c (entry w G [b] [.ref 0 0] [.pointer (some ⟨b,0,none⟩)] [.cells [.opt 0 0, .lst 5 true xs]]) w' G [b] [.ref 0 0] [.pointer (some ⟨b,0,none⟩)] [.cells [.opt 0 0, .lst 5 true xs]]→
      Sim c (entry w G [b] [.ref 0 0] [.pointer (some ⟨b,0,none⟩)] [.cells [.opt 0 0, .lst 5 true xs]]) w' G [b] [.tup []] [.tuple #[]] [.cells [.opt 0 0, .lst 5 true xs]]:=fun w' hs=>
     (hs.push (v:= .tup []) (x:= .tuple #[]) (.tup [] [] rfl (fun i v x hv=>by simp at hv)) rfl).firsts (fr:=[.tup []]) (cfr:=[.tuple #[]]) rfl
    have hx0:x0= .pointer none∨x0= .pointer (some ⟨b,0,none⟩):=by
     cases hr0 with
     |opt _ _ b' _ hb' hx=>simp at hb';subst hb';exact hx
    have hc0:w.cell? ⟨b,0,none⟩=some x0:=by simp[World.cell?,h1]
    rw[hP]
    rcases hx0 with rfl|rfl
    ·have hsh:w.shape? b=some (72,2):=by simp[World.shape?,h1]
     have hfz:w.frozen? ⟨b,0,none⟩=false:=by
      have:=h2 0 (by simp)
      simp[World.frozen?,h1]
      omega
     refine(xP b w hc0 hsh hfz).mono ?_
     rintro e w' ⟨rfl,rfl⟩
     refine⟨_,G,rfl,fin _ ?_⟩
     have hlt:=cN h1
     have hw:(w.setCell ⟨b,0,none⟩ (.pointer (some ⟨b,0,none⟩))).heap[b]? =some (.cells [.pointer (some ⟨b,0,none⟩),x1].toArray 72 fr):=by
      simp only[World.setCell,Array.getElem?_modify,h1,if_true]
      rfl
     have hother:∀k,k≠b→(w.setCell ⟨b,0,none⟩ (.pointer (some ⟨b,0,none⟩))).heap[k]? =w.heap[k]? :=fun k hk=>Below.heap_setCell _ _ _ k hk
     have hG:=(hinv.mine b (by simp)).2
     have hseal:gC w G (w.setCell ⟨b,0,none⟩ (.pointer (some ⟨b,0,none⟩))) G:=by
      refine⟨fun k o ho=>?_,fun _=>Nat.le_refl _,by simp[World.setCell]⟩
      have:k≠b:=fun e=>by rw[e,hG]at ho;omega
      exact bJ (hother k this)
     have:=hsim.reob (i:=0) (b:=b) (o:= .cells [.opt 0 0, .lst 5 true xs]) (o' := .cells [.opt 0 0, .lst 5 true xs]) (w' :=w.setCell ⟨b,0,none⟩ (.pointer (some ⟨b,0,none⟩)))
      (env' :=[.ref 0 0]) (tmps' :=[.pointer (some ⟨b,0,none⟩)]) rfl rfl hother (by simp[World.setCell]) rfl rfl rfl (by simp) hinv.rep ?_ (fun q=>?_) (fun l hl=>?_)
     ·exact this
     ·refine⟨[.pointer (some ⟨b,0,none⟩),x1],_,fr,hw,h2,rfl,fun y hy=>?_,fun i v y hv hy=>?_,h6⟩
      ·rcases List.mem_cons.1 hy with rfl|hy
       ·rfl
       ·exact h4 y (List.mem_cons_of_mem _ hy)
      ·match i,hv,hy with
       |0,hv,hy=>simp at hv hy;subst hv;subst hy;exact .opt 0 0 b _ rfl (.inr rfl)
       |1,hv,hy=>simp at hv hy;subst hv;subst hy;exact(h5 1 _ x1 rfl rfl).mono hseal
     ·have e1:aU (w.setCell ⟨b,0,none⟩ (.pointer (some ⟨b,0,none⟩))) (.cells [.opt 0 0, .lst 5 true xs]) b=aU w (.cells [.opt 0 0, .lst 5 true xs]) b:=by
       simp[aU,bN,hw,h1,aE,aQ]
      rw[e1];exact Nat.le_refl _
     ·have e1:aU (w.setCell ⟨b,0,none⟩ (.pointer (some ⟨b,0,none⟩))) (.cells [.opt 0 0, .lst 5 true xs]) b=aU w (.cells [.opt 0 0, .lst 5 true xs]) b:=by
       simp[aU,bN,hw,h1,aE,aQ]
      rw[e1]at hl;exact hl
    ·refine(zN b w hc0).mono ?_
     rintro e w' ⟨rfl,rfl⟩
     exact⟨_,G,rfl,fin _ hsim⟩
theorem C6 {c:Cfg} (hc:aR c) (hP:c.P=Tryz.prog) (hcut:c.cutO 29=true) (hsz:aC c 5=1) (hro:c.ro 29=false)
  (hr:∀fn rsh s,c.fn 29=some fn→eA c 29 fn=some rsh→gJ rsh (.str s)=true):bP c 29 textF:=by
 have hF:∀args objs v objs',textF args objs=some (v,objs')→∃xs,args=[.ref 0 0]∧objs=[.cells [.opt 0 0, .lst 5 true xs]]∧v= .str (bytesOf xs)∧objs' =[.cells [.opt 0 0, .lst 5 false xs]]∧
   xs.all nA=true∧xs.length<1152921504606846976:=by
  intro args objs v objs' h
  unfold textF at h
  split at h
  ·split at h
   ·rename_i hx
    simp only[Bool.and_eq_true,decide_eq_true_eq]at hx
    cases h
    exact⟨_,rfl,rfl,rfl,rfl,hx⟩
   ·cases h
  ·cases h
 refine⟨fun args objs v objs' hq h=>?_,fun fn rsh hfn hrsh args objs v objs' h w G μ cargs hlen hinv=>?_⟩
 ·obtain⟨xs,_,rfl,_⟩:=hF _ _ _ _ h
  rcases hq with hq|⟨_,hq⟩
  ·rw[hro]at hq;cases hq
  ·cases hq
 ·obtain⟨xs,rfl,rfl,rfl,rfl,hby,hbig⟩:=hF _ _ _ _ h
  refine⟨hr fn rsh _ hfn hrsh,?_,?_⟩
  ·simp[Cfg.osh,hcut,OSh.of,OSh.soft,eU,OSh.fits,CSh.of,CSh.soft,bR,CSh.fits]
  ·have hol:=hinv.olen
   obtain⟨b,rfl⟩:∃b,μ=[b]:=by
    match μ,hol with
    |[b],_=>exact⟨b,rfl⟩
   have hsim:=Sim.begin_ hinv
   obtain⟨x,rfl⟩:∃x,cargs=[x]:=by
    match cargs,hlen with
    |[x],_=>exact⟨x,rfl⟩
   obtain⟨b',hb',rfl⟩:=iZ (hinv.rep 0 _ _ rfl rfl) rfl
   simp at hb'
   subst hb'
   obtain⟨l,elem,fr,h1,h2,h3,h4,h5,h6⟩:=hinv.obs 0 _ _ rfl rfl
   match l,h3 with
   |[x0,x1],_=>
    obtain⟨a,cap,lo,rfl,hl,hrr,hf,hs,hz,hcap,ha,hrow⟩:=kG (h5 1 _ x1 rfl rfl) rfl
    have hc1:w.cell? ⟨b,1,none⟩=some (.slice a xs.length cap):=by simp[World.cell?,h1]
    have hcat:bN w b=[x0, .slice a xs.length cap]:=by unfold bN;rw[h1]
    have hcutS:Sim c (entry w G [b] [.ref 0 0] [.pointer (some ⟨b,0,none⟩)] [.cells [.opt 0 0, .lst 5 true xs]]) w G [b] [.ref 0 0] [.pointer (some ⟨b,0,none⟩)] [.cells [.opt 0 0, .lst 5 false xs]]:=by
     have:=hsim.reob (i:=0) (b:=b) (o:= .cells [.opt 0 0, .lst 5 true xs]) (o' := .cells [.opt 0 0, .lst 5 false xs]) (w' :=w)
      (env' :=[.ref 0 0]) (tmps' :=[.pointer (some ⟨b,0,none⟩)]) rfl rfl (fun _ _=>rfl) rfl rfl rfl rfl (by simp) hinv.rep ?_ (fun q=>?_) (fun l hl=>?_)
     ·exact this
     ·refine⟨[x0, .slice a xs.length cap],elem,fr,h1,h2,rfl,h4,fun i v y hv hy=>?_,h6⟩
      match i,hv,hy with
      |0,hv,hy=>simp at hv hy;subst hv;subst hy;exact h5 0 _ _ rfl rfl
      |1,hv,hy=>simp at hv hy;subst hv;subst hy;exact(h5 1 _ _ rfl rfl).cut1
     ·have:aU w (.cells [.opt 0 0, .lst 5 false xs]) b=[]:=by simp[aU,hcat,aE,aQ]
      rw[this];simp[cnt]
     ·have:aU w (.cells [.opt 0 0, .lst 5 false xs]) b=[]:=by simp[aU,hcat,aE,aQ]
      rw[this]at hl
      rcases hl with hl|hl
      ·exact .inl hl
      ·cases hl
    have fin:∀w' G' s,Sim c (entry w G [b] [.ref 0 0] [.pointer (some ⟨b,0,none⟩)] [.cells [.opt 0 0, .lst 5 true xs]]) w' G' [b] [.ref 0 0] [.pointer (some ⟨b,0,none⟩)] [.cells [.opt 0 0, .lst 5 false xs]]→
      Sim c (entry w G [b] [.ref 0 0] [.pointer (some ⟨b,0,none⟩)] [.cells [.opt 0 0, .lst 5 true xs]]) w' G' [b] [.str s] [.string ⟨s.toArray⟩] [.cells [.opt 0 0, .lst 5 false xs]]:=fun w' G' s hs=>
     (hs.push (v:= .str s) (x:= .string ⟨s.toArray⟩) (.str s) rfl).firsts (fr:=[.str s]) (cfr:=[.string ⟨s.toArray⟩]) rfl
    rw[hP]
    by_cases hx0:xs=[]
    ·subst hx0
     refine(xR b cap a w hc1 ha.2).mono ?_
     rintro e w' ⟨rfl,hw⟩
     have hd:=hcutS.ext (cZ.of_drew hinv.none)
     rcases hw with rfl|⟨o,rfl⟩
     ·exact⟨_,G,rfl,fin _ _ [] hd⟩
     ·exact⟨_,_,rfl,fin _ _ [] (hd.ext (cZ.of_alloc (w:=w.drew) (G:=G) hd.inv.none o 0))⟩
    ·have hpos:0<xs.length:=List.length_pos_iff.2 hx0
     cases ha0:a with
     |none=>have:=ha.1 ha0;omega
     |some p=>
      subst ha0
      have hmem:(⟨5,p,xs.length,cap,none⟩:cO)∈aF w [.cells [.opt 0 0, .lst 5 true xs]] [b]:=by
       have hcp:0<cap:=by omega
       simp[aF,hcat,aE,aQ,hcp]
      obtain⟨g1,cs,el,fr',g2,g3,g4,g5,g6,g7⟩:=hinv.ok _ (List.mem_append_right _ hmem)
      simp only at g1 g2 g4 g6 g7
      subst g6
      obtain⟨pb,po,ps⟩:=p
      simp only at g1 g2 g4 g7
      subst g1;subst g7
      obtain⟨_,hrow⟩:=hrow _ rfl hx0
      have hxb:=jQ hby
      have hlo:lo=(bytesOf xs).map (fun b=>Value.int .u8 b.toNat):=by
       apply List.ext_getElem?
       intro i
       by_cases hi:i<xs.length
       ·have e1:xs[i]? =(ofBytes (bytesOf xs))[i]? :=by rw[hxb]
        have hbl:(bytesOf xs).length=xs.length:=by simp[bytesOf]
        simp only[ofBytes,List.getElem?_map]at e1
        rw[List.getElem?_eq_getElem (by omega:i<(bytesOf xs).length)]at e1
        have:=cA (hrr i _ lo[i] e1 (List.getElem?_eq_getElem (by omega))) rfl
        rw[List.getElem?_eq_getElem (by omega:i<lo.length),this,List.getElem?_map,List.getElem?_eq_getElem (by omega:i<(bytesOf xs).length)]
        rfl
       ·have hbl:(bytesOf xs).length=xs.length:=by simp[bytesOf]
        rw[List.getElem?_eq_none (by omega),List.getElem?_eq_none (by simp;omega)]
      have hbl:(bytesOf xs).length=xs.length:=by simp[bytesOf]
      have hcell:∀j x,(bytesOf xs)[j]? =some x→w.cell? ⟨pb,j,none⟩=some (.int .u8 x.toNat):=by
       intro j x hj
       have:=(hrow j (.int .u8 x.toNat) (by rw[hlo,fP,List.getElem?_map,hj];rfl)).1
       simpa using this
      rw[hsz]at g4
      rw[←hbl]at hc1
      refine(xQ b pb cap cs.size (bytesOf xs) w (fun e=>by rw[e]at hbl;simp at hbl;omega) hc1 (by omega) (by simp[World.shape?,g2]) (by omega) (by omega) hcell).mono ?_
      rintro e w' ⟨rfl,rfl⟩
      refine⟨_,G,rfl,fin _ _ _ ?_⟩
      have hd:=hcutS.ext (cZ.of_drew hinv.none)
      have hone:=hinv.one pb
      have hcl:0<cnt pb (aF w [.cells [.opt 0 0, .lst 5 true xs]] [b]):=bY.2 ⟨_,hmem,rfl⟩
      refine hd.regrind (g:=pb) (fun _=>?_) ?_ (fun k hk=>?_) (fun o=>?_) ?_ ?_ ?_ ?_
      ·simp only[entry];omega
      ·have e0:aF w.drew [.cells [.opt 0 0, .lst 5 false xs]] [b]=[]:=by
        have:bN w.drew b=[x0, .slice (some ⟨pb,0,none⟩) xs.length cap]:=hcat
        simp[aF,this,aE,aQ]
       rw[e0]
       have e1:cnt pb (aE aD [V.ref 0 0] [Value.pointer (some ⟨b,0,none⟩)])=0:=rfl
       rw[e1]at hone ⊢
       simp only[nY]
       omega
      ·unfold World.freeze
       split
       ·rfl
       ·simp only[Array.getElem?_modify];rw[if_neg (fun e=>hk e.symm)]
      ·unfold World.freeze
       split
       ·rfl
       ·simp only[World.cell?,Array.getElem?_modify]
        have g2' :w.drew.heap[pb]? =some (.cells cs 5 fr'):=g2
        rw[g2']
        rfl
      ·unfold World.freeze;split<;>simp
      ·unfold World.freeze;split<;>rfl
      ·unfold World.freeze;split<;>rfl
      ·unfold World.freeze;split<;>rfl
end Go.Proofs.YtdoaoaicdimbeaaGreatDoor
end
section
namespace Go.Proofs.YtdoaoaicdimbeaaGreatDoor
open Go.RowKit Go.Shelf Go.Rg Go.Lib
theorem EM:(Tryz.prog.info? 5).map (fun i=>(i.zero,i.size,i.bytes))=some (some (.int .u8 0),1,1):=by kernel_rfl
set_option maxRecDepth 100000 in
set_option maxHeartbeats 2000000 in
theorem C7 (ad:Addr) (n c:Nat) (news:List Value) (w:World) (hl:news.length=n) (hn:n≤maxLen) (hbig:n≤140737488355328)
  (hc:∀j u,news[j]? =some u→w.cell? (ad.add j)=some u) (h1:∀u∈news,u.oneCell' =true):
  Calls Tryz.prog 75 #[.slice (some ad) n c] w fun e w' =>∃v',e= .returned v'∧w'.ownsRow w.heap.size 5 1 v' n news∧Below w.heap.size w w' :=by
 obtain⟨i0,hi,hz0,hz1,hz2⟩:=info_parts EM
 have q22:∀(w:World) (a:Option Addr) (n c n' c' :Nat),(binOp .eql 40 (.slice a n c) (.slice none n' c')).run Tryz.prog w= .ok (.bool a.isNone) w:=fun w a n c n' c' =>Lib.run_eql_slice_nil w _ _ a n c n' c' Tryz.underlying40
 have A:Aside (∀j u,news[j]? =some u→w.cell? (ad.add j)=some u):=hc
 clear hc
 go_enter Tryz.func75,Tryz.ntmps75
 go_wp2_with (at_builtin;refine wpList_append_own _ rfl _ _ 40 rfl w.heap.size 5 i0 (.int .u8 0) 1 1 Tryz.underlying40 hi hz0 hz1 hz2 rfl (by decide) _ _ _ rfl (World.ownsRow_made w #[] 0 (Nat.le_refl _) (Nat.zero_le _) (by simp)) ad n c news rfl ?qc1 ?qc2 ?qc3 ?qc4 ?qc5 ?qc6 ?_)
 case qc1=>rw[Nat.mul_one];exact hl
 case qc2=>
  intro j u hj
  exact Lib.cell?_alloc_some _ (A.out j u hj)
 case qc3=>exact h1
 case qc4=>rw[Nat.zero_add];exact hn
 case qc5=>rw[Nat.zero_add,Nat.mul_one];exact hbig
 case qc6=>simp
 intro v' w1 hown hgrow hnil
 go_wp2
 go_ret
 refine⟨v',rfl,by simpa using hown,?_⟩
 exact((Below.refl _ w).alloc (Nat.le_refl _) _).grown hgrow (by simp) (by intro k hk;simp[Value.ownBlock]at hk;omega)
set_option maxHeartbeats 1000000 in
theorem clone_nil (n c:Nat) (w:World):Calls Tryz.prog 75 #[.slice none n c] w fun e w' =>e= .returned (.slice none 0 0)∧w' =w:=by
 have q22:∀(w:World) (a:Option Addr) (n c n' c' :Nat),(binOp .eql 40 (.slice a n c) (.slice none n' c')).run Tryz.prog w= .ok (.bool a.isNone) w:=fun w a n c n' c' =>Lib.run_eql_slice_nil w _ _ a n c n' c' Tryz.underlying40
 go_enter Tryz.func75,Tryz.ntmps75
 go_wp2
 go_ret
 exact⟨rfl,rfl⟩
end Go.Proofs.YtdoaoaicdimbeaaGreatDoor
end
section
namespace Go.Proofs.YtdoaoaicdimbeaaGreatDoor
open Go.Ev Go
def cutV (p:Nat×Nat):V:= .agg [.int .i64 p.1, .int .i64 p.2]
inductive Pt
 |mk (kind:Nat) (head body:Nat×Nat) (kids:List Pt) (cuts:List (Nat×Nat)) (fin:Nat×Nat)
mutual
def partV:Pt→V
 | .mk k h b kids cuts e=> .agg [.int .i64 (k:Nat), .int .i64 (h.1:Nat), .int .i64 (h.2:Nat), .int .i64 (b.1:Nat), .int .i64 (b.2:Nat), .lst 36 false (B5 kids), .lst 32 false (cuts.map cutV), .int .i64 (e.1:Nat), .int .i64 (e.2:Nat)]
def B5:List Pt→List V
 |[]=>[]
 |p::r=>partV p::B5 r
end
end Go.Proofs.YtdoaoaicdimbeaaGreatDoor
end
section
namespace Go.Proofs.YtdoaoaicdimbeaaGreatDoor
open Go.Shelf
def lays156_ren:Go.Shelf.Ren:=⟨fun|156=>85|165=>121|166=>27|169=>29|240=>54|241=>145|276=>94|277=>162|n=>n,fun|31=>53|9=>9|3=>3|4=>4|0=>0|20=>20|72=>72|76=>75|70=>70|37=>40|75=>74|127=>119|164=>171|5=>5|80=>78|n=>n,fun|n=>n⟩
theorem lays156:Go.Proofs.Lays.n156 Tryz.prog lays156_ren:={
 mixed:=by kernel_rfl
 f156:=Tryz.func85.trans (congrArg some (by kernel_rfl))
 f165:=Tryz.func121.trans (congrArg some (by kernel_rfl))
 f166:=Tryz.func27.trans (congrArg some (by kernel_rfl))
 f169:=Tryz.func29.trans (congrArg some (by kernel_rfl))
 f240:=Tryz.func54.trans (congrArg some (by kernel_rfl))
 f241:=Tryz.func145.trans (congrArg some (by kernel_rfl))
 f276:=Tryz.func94.trans (congrArg some (by kernel_rfl))
 f277:=Tryz.func162.trans (congrArg some (by kernel_rfl))
 t0:=Tryz.underlying0
 a0:=Tryz.isAgg0
 z0:=Tryz.sizeOf0
 v0:=Tryz.zeroValue0
 t3:=Tryz.underlying3
 a3:=Tryz.isAgg3
 z3:=Tryz.sizeOf3
 v3:=Tryz.zeroValue3
 t4:=Tryz.underlying4
 a4:=Tryz.isAgg4
 z4:=Tryz.sizeOf4
 v4:=Tryz.zeroValue4
 t9:=Tryz.underlying9
 a9:=Tryz.isAgg9
 z9:=Tryz.sizeOf9
 v9:=Tryz.zeroValue9
 t20:=Tryz.underlying20
 a20:=Tryz.isAgg20
 z20:=Tryz.sizeOf20
 v20:=Tryz.zeroValue20
 t31:=Tryz.underlying53
 a31:=Tryz.isAgg53
 z31:=Tryz.sizeOf53
 v31:=Tryz.zeroValue53
 t37:=Tryz.underlying40
 a37:=Tryz.isAgg40
 z37:=Tryz.sizeOf40
 v37:=Tryz.zeroValue40
 t70:=Tryz.underlying70
 a70:=Tryz.isAgg70
 z70:=Tryz.sizeOf70
 v70:=Tryz.zeroValue70
 t72:=Tryz.underlying72
 a72:=Tryz.isAgg72
 z72:=Tryz.sizeOf72
 v72:=Tryz.zeroValue72
 t75:=Tryz.underlying74
 a75:=Tryz.isAgg74
 z75:=Tryz.sizeOf74
 v75:=Tryz.zeroValue74
 t76:=Tryz.underlying75
 a76:=Tryz.isAgg75
 z76:=Tryz.sizeOf75
 v76:=Tryz.zeroValue75
 t127:=Tryz.underlying119
 a127:=Tryz.isAgg119
 z127:=Tryz.sizeOf119
 v127:=Tryz.zeroValue119
 t164:=Tryz.underlying171
 a164:=Tryz.isAgg171
 z164:=Tryz.sizeOf171
 v164:=Tryz.zeroValue171 }
theorem Builder_Extra_156:Builder.Extra Tryz.prog lays156_ren:={
 sizeBuilder:=by kernel_rfl
 liesBuilder:=by kernel_rfl
 t5:=Tryz.underlying5
 a5:=Tryz.isAgg5
 z5:=Tryz.sizeOf5
 v5:=Tryz.zeroValue5
 infoByte:=by kernel_rfl
 cellsByte:=by kernel_rfl
 sizeByte:=by kernel_rfl
 neB5:=by decide }
open Go.RowKit in
theorem strings_Join_none (a:Option Addr) (c:Nat) (sep:ByteArray) (w:World):
  Calls Tryz.prog 85 #[.slice a 0 c, .string sep] w fun e w' =>e= .returned (.string ⟨#[]⟩)∧w' =w:=Any.strings_Join_none lays156 Builder_Extra_156 a c sep w
open Go.RowKit in
theorem strings_Join (bk o c:Nat) (xs:List ByteArray) (sep:ByteArray) (w:World) (hcells:∀(j:Nat) x,xs[j]? =some x→w.cell? ⟨bk,o+j,none⟩=some (.string x)) (hbk:bk<w.heap.size) (hN:xs.length≤140737488355328) (hcap:xs.length≤c) (hlen:(Lib.join (xs.map (·.data.toList)) sep.data.toList).length≤140737488355328):
  Calls Tryz.prog 85 #[.slice (some ⟨bk,o,none⟩) xs.length c, .string sep] w fun e w' =>e= .returned (.string ⟨(Lib.join (xs.map (·.data.toList)) sep.data.toList).toArray⟩)∧Below w.heap.size w w' :=Any.strings_Join lays156 Builder_Extra_156 bk o c xs sep w hcells hbk hN hcap hlen
end Go.Proofs.YtdoaoaicdimbeaaGreatDoor
end
section
namespace Go.Proofs.YtdoaoaicdimbeaaGreatDoor
open Go.ChangeShapes Go.WideShapes Go.ChangeAt Go.RowKit Go.Ev
theorem own:ownKnob Tryz.prog.godebug=none:=by kernel_rfl
def sG:DataW Unit→List Value
 | .lit (.int k n)=>[.int k n]
 |_=>[]
def B6:DataW Unit→List Value
 | .agg ps=>ps.flatMap sG
 |d=>sG d
def sH:DataW Unit→List Value
 | .agg ps=>ps.flatMap B6
 |d=>sG d
def sJ (cs:List Value):Obj→Obj
 | .cells _ t frozen=> .cells cs.toArray t frozen
 |o=>o
noncomputable def laidWorld (os:Os):World:=
 { World.holding Tryz.prog os ⟨#[],#[],[]⟩with
  heap:=((World.holding Tryz.prog os ⟨#[],#[],[]⟩).heap
   |>.modify 0 (sJ (sH Rows.laid_letterbox_b64_letters))
   |>.modify 3 (sJ (sH Rows.laid_unicode_utf8_acceptRanges))).modify 2 (sJ (sH Rows.laid_unicode_utf8_first)) }
theorem gA {c:Cfg} {f:FuncId} {F:Go.Ev.Fun}
  (h:∀args objs v objs',F args objs=some (v,objs')→objs=[]∧objs' =[]∧∀fn rsh,c.fn f=some fn→eA c f fn=some rsh→gJ rsh v=true∧
   ∀(w:World) (G:Gh) (cargs:List Value),(∀b,w.heap.size≤b→G b=0)→cargs.length=args.length→(∀(i:Nat) v x,args[i]? =some v→cargs[i]? =some x→Rep c w G [] v x)→
    Calls c.P f cargs.toArray w fun e w' =>∃u G',e= .returned u∧cZ w G w' G'∧Rep c w' G' [] v u∧aD v u=[]):bP c f F:=by
 refine⟨fun args objs v objs' _ hF=>?_,fun fn rsh hfn hrsh args objs v objs' hF w G μ cargs hlen hinv=>?_⟩
 ·obtain⟨rfl,rfl,_⟩:=h args objs v objs' hF;rfl
 ·obtain⟨rfl,rfl,hh⟩:=h args objs v objs' hF
  obtain⟨h1,h2⟩:=hh fn rsh hfn hrsh
  have hμ:μ=[]:=List.eq_nil_of_length_eq_zero hinv.olen.symm
  subst hμ
  refine⟨h1,by unfold Cfg.osh;split<;>rfl,(h2 w G cargs hinv.none hlen hinv.rep).mono ?_⟩
  rintro e w' ⟨u,G',rfl,hx,hr,hl⟩
  refine⟨u,G',rfl,?_⟩
  have hsim0:Sim c (entry w G [] args cargs []) w G [] args cargs []:=
   ⟨hinv,⟨Nat.le_refl _,gC.refl w G,fun _ _ _=>⟨rfl,rfl⟩,rfl,rfl,rfl⟩,fun b _ h=>h,[],by simp[entry]⟩
  exact((hsim0.ext hx).push hr hl).firsts (fr:=[v]) (cfr:=[u]) rfl
def EN (b:UInt8):UInt8:=UInt8.ofNat (lR b.toNat).toNat
def B7:Go.Ev.Fun
 |[.str s],[]=>if s.length<4294967281 then some (.str (s.map EN),[])else none
 |_,_=>none
def EO:Go.Ev.Fun
 |[.str s, .str [b]],[]=>some (.int .i64 (Lib.indexByte s b),[])
 |_,_=>none
def A8 (b:UInt8):Nat→List UInt8→List (List UInt8)
 |0,s=>[s]
 |k+1,s=>if Lib.indexByte s b= -1 then[s]else s.take (Lib.indexByte s b).toNat::A8 b k (s.drop ((Lib.indexByte s b).toNat+1))
def zO:Go.Ev.Fun
 |[.str s, .str [b], .int k n],[]=>if k= .i64∧0<n∧n<1000∧s.length<4294967281 then some (.lst 9 false ((A8 b (min n.toNat (s.length+1) - 1) s).map V.str),[])else none
 |_,_=>none
def lnV (x:Nat×Nat×Nat):V:= .agg [.int .i64 x.1, .int .i64 x.2.1, .int .i64 x.2.2]
def ofF:Go.Ev.Fun
 |[.lst 5 _ bs, .agg [.int .i64 fr, .int .i64 to]],[]=>if bs.all nA&&decide (bs.length<1099511627776)then some (.lst 134 false ((bQ fr to (bytesOf bs)).map lnV),[])else none
 |_,_=>none
def zP:Go.Ev.Fun
 |[.str s, .int .u8 n],[]=>if 0≤n∧n<256 then some (.int .i64 (Lib.indexByte s (UInt8.ofNat n.toNat)),[])else none
 |_,_=>none
def zQ:Go.Ev.Fun
 |[.lst 5 _ bs],[]=>if bs.all nA&&decide (bs.length<1099511627776)then some (.lst 5 false bs,[])else none
 |_,_=>none
def zR:Go.Ev.Fun
 |[.lst 5 _ bs, .agg [.int .i64 fr, .int .i64 to]],[]=>if bs.all nA&&decide (bs.length<1099511627776)then some (.int .i64 ((bQ fr to (bytesOf bs)).length:Nat),[])else none
 |_,_=>none
def sK:Go.Ev.Fun
 |[.lst 9 _ xs, .str s],[]=>if xs.length≤140737488355328∧(Lib.join (xs.map V.getS) s).length≤140737488355328 then some (.str (Lib.join (xs.map V.getS) s),[])else none
 |_,_=>none
noncomputable def B8 (f:FuncId):Option Go.Ev.Fun:=
 if f=73 then some B7 else if f=170 then some zO else if f=168 then some EO else
 if f=62 then some ofF else if f=89 then some zP else
 if f=75 then some zQ else
 if f=85 then some sK else
 if f=48 then some zR else
 if f=54 then some checkF else if f=29 then some textF else none
noncomputable def hand (f:FuncId):Option ((FuncId→Go.Ev.Fun)→Go.Ev.Fun):=
 (B8 f).map fun h _=>h
def ro (f:FuncId):Bool:=[151,152].contains f
def pur (f:FuncId):Bool:=[3,4,5,6,7,8,9,10,11,12,13,14,15,16,17,18,19,20,21,22,23,24,25,26,28,30,32,33,34,35,36,37,38,39,40,41,43,44,45,46,47,48,49,50,51,52,53,55,56,58,62,63,64,65,66,69,70,71,73,74,75,76,77,78,79,80,81,82,83,84,85,87,88,89,91,92,93,95,96,97,98,99,100,104,105,106,107,108,111,112,113,114,115,116,117,118,119,120,122,124,125,126,127,128,133,134,137,141,142,146,147,148,149,150,153,155,156,157,158,159,162,163,164,165,166,168,169,170,171,172,173,174,175,176,177,178,179,180,181,182,183,199].contains f
def GB (f:FuncId):Option (List RSh):=if f=27 then some [⟨false,[.int .i64]⟩,⟨false,[.nili]⟩]else none
def F3 (t:TypeId):Bool:=t==72
def GE (f:FuncId):Bool:=f==29
def GF (t:TypeId):Bool:=t==91
noncomputable def cfg:Cfg:=eC hand (fun _ _=>false) (fun _=>false) ro pur GB F3 GE GF
theorem As (f:FuncId) (x:Func) (h0:fnT f=some x) (h1:(match x.body with|some b=>gB cfg b|none=>true)=true):∀y,fnT f=some y→∀b,y.body=some b→gB cfg b=true:=by
 intro y hy b hb
 rw[h0]at hy;cases hy
 rw[hb]at h1;exact h1
theorem B9:aR cfg:=F2 _ _ _ _ _ _ _ _ _ (by
 intro f x hf hx b hb
 have hf' :f∈[151,152]:=by simpa[ro]using hf
 simp only[List.mem_cons,List.not_mem_nil,or_false]at hf'
 rcases hf' with rfl|rfl
 ·exact As _ Tryz.f151 (by kernel_rfl) (by kernel_rfl) x hx b hb
 ·exact As _ Tryz.f152 (by kernel_rfl) (by kernel_rfl) x hx b hb)
theorem pR {c:Cfg} {w:World} {G:Gh} {args:List V} {cargs:List Value} (hr:∀(i:Nat) v x,args[i]? =some v→cargs[i]? =some x→Rep c w G [] v x) (hl:cargs.length=args.length) {i:Nat} {s:List UInt8}
  (h:args[i]? =some (.str s)):cargs[i]? =some (.string ⟨s.toArray⟩):=by
 have hi:=(List.getElem?_eq_some_iff.1 h).1
 have hx:=List.getElem?_eq_getElem (l:=cargs) (i:=i) (by omega)
 rw[hx,iD (hr i _ _ h hx) rfl]
theorem Ca {c:Cfg} {w:World} {G:Gh} {args:List V} {cargs:List Value} (hr:∀(i:Nat) v x,args[i]? =some v→cargs[i]? =some x→Rep c w G [] v x) (hl:cargs.length=args.length) {i:Nat} {k:IntKind} {n:Int}
  (h:args[i]? =some (.int k n)):cargs[i]? =some (.int k n):=by
 have hi:=(List.getElem?_eq_some_iff.1 h).1
 have hx:=List.getElem?_eq_getElem (l:=cargs) (i:=i) (by omega)
 rw[hx,cA (hr i _ _ h hx) rfl]
theorem C9:bP cfg 73 B7:=by
 refine gA fun args objs v objs' hF=>?_
 unfold B7 at hF
 split at hF
 ·rename_i s
  split at hF
  ·rename_i hs
   cases hF
   refine⟨rfl,rfl,fun fn rsh hfn hrsh=>?_⟩
   have h1:cfg.fn 73=some Tryz.f73:=by kernel_rfl
   have h2:eA cfg 73 Tryz.f73=some [⟨false,[.str]⟩]:=by kernel_rfl
   rw[h1]at hfn;cases hfn
   rw[h2]at hrsh;cases hrsh
   refine⟨rfl,fun w G cargs hn hl hr=>?_⟩
   have e0:=pR hr hl (i:=0) rfl
   match cargs,hl,e0 with
   |[x],_,e0=>
    simp at e0;subst e0
    have:=EK ⟨s.toArray⟩ w (by simpa[ByteArray.size]using hs)
    refine this.mono ?_
    rintro e w' ⟨rfl,hf⟩
    refine⟨_,G,rfl,⟨by have:=hf.size;omega,fun b hb=>⟨hf.old b hb,rfl⟩,fun b hb=>hn b (by have:=hf.size;omega),hf.os,hf.out,hf.tape⟩,?_,rfl⟩
    exact .str _
  ·cases hF
 ·cases hF
theorem EP:bP cfg 168 EO:=by
 refine gA fun args objs v objs' hF=>?_
 unfold EO at hF
 split at hF
 ·rename_i s b
  cases hF
  ·refine⟨rfl,rfl,fun fn rsh hfn hrsh=>?_⟩
   have h1:cfg.fn 168=some Tryz.f168:=by kernel_rfl
   have h2:eA cfg 168 Tryz.f168=some [⟨false,[.int .i64]⟩]:=by kernel_rfl
   rw[h1]at hfn;cases hfn
   rw[h2]at hrsh;cases hrsh
   refine⟨rfl,fun w G cargs hn hl hr=>?_⟩
   have e0:=pR hr hl (i:=0) rfl
   have e1:=pR hr hl (i:=1) rfl
   match cargs,hl,e0,e1 with
   |[x,y],_,e0,e1=>
    simp at e0 e1;subst e0;subst e1
    refine(Ap ⟨s.toArray⟩ b w).mono ?_
    rintro e w' ⟨rfl,rfl⟩
    exact⟨_,G,rfl,⟨Nat.le_refl _,fun b hb=>⟨rfl,rfl⟩,hn,rfl,rfl,rfl⟩, .int _ _,rfl⟩
 ·cases hF
theorem sL (b:UInt8):∀(k:Nat) (s:List UInt8),Lib.splitK [b] 0 k s=A8 b k s
 |0,s=>rfl
 |k+1,s=>by
  simp only[Lib.splitK,A8,nP,sL b k,Nat.add_zero,List.length_singleton]
  by_cases h:Lib.indexByte s b= -1
  ·simp[h]
  ·simp[h]
theorem split_ok:bP cfg 170 zO:=by
 refine gA fun args objs v objs' hF=>?_
 unfold zO at hF
 split at hF
 ·rename_i s b k n
  split at hF
  ·rename_i hk
   obtain⟨rfl,hn0,hn1,hs⟩:=hk
   cases hF
   refine⟨rfl,rfl,fun fn rsh hfn hrsh=>?_⟩
   have h1:cfg.fn 170=some Tryz.f170:=by kernel_rfl
   have h2:eA cfg 170 Tryz.f170=some [⟨false,[.lst 9 false]⟩]:=by kernel_rfl
   rw[h1]at hfn;cases hfn
   rw[h2]at hrsh;cases hrsh
   refine⟨rfl,fun w G cargs hn hl hr=>?_⟩
   have e0:=pR hr hl (i:=0) rfl
   have e1:=pR hr hl (i:=1) rfl
   have e2:=Ca hr hl (i:=2) rfl
   match cargs,hl,e0,e1,e2 with
   |[x,y,z],_,e0,e1,e2=>
    simp at e0 e1 e2;subst e0;subst e1;subst e2
    have hsz:(⟨s.toArray⟩:ByteArray).size=s.length:=by simp[ByteArray.size]
    generalize hN:min n.toNat (s.length+1)=N
    have:=BX ⟨s.toArray⟩ b n N w (by rw[hsz];exact hs) hn0 (by omega) (by rw[hsz];omega)
    refine this.mono ?_
    rintro e w' ⟨rfl,rfl⟩
    generalize hps:Lib.splitB ⟨#[b]⟩ 0 (N - 1) ⟨s.toArray⟩=ps
    have hdata:ps.map (fun p=>p.data.toList)=A8 b (N - 1) s:=by
     rw[←hps,Lib.splitB_data,←sL]
    have hle:ps.length≤N:=by
     rw[←hps]
     have:=Lib.splitB_length_le ⟨#[b]⟩ 0 (N - 1) ⟨s.toArray⟩
     omega
    have hsz9:aC cfg 9=1:=by kernel_rfl
    have hx:cZ w G (w.alloc (.cells (Lib.cellsOf ps N) 9)) (fun k=>if k=w.heap.size then ps.length else G k):=by
     refine⟨by simp,fun b hb=>⟨?_,by simp[Nat.ne_of_lt hb]⟩,fun b hb=>?_,rfl,rfl,rfl⟩
     ·show(w.heap.push _)[b]? =_
      rw[Array.getElem?_push_lt hb,Array.getElem?_eq_getElem hb]
     ·have hb' :w.heap.size+1≤b:=by simpa using hb
      have:b≠w.heap.size:=by omega
      simp[this,hn b (by omega)]
    refine⟨_,_,rfl,hx,?_,rfl⟩
    have hvs:(A8 b (N - 1) s).map V.str=ps.map fun p=>V.str p.data.toList:=by rw[←hdata,List.map_map];rfl
    rw[hvs]
    have hlen:ps.length=(ps.map fun p=>V.str p.data.toList).length:=by simp
    have hfl:flat (ps.map Value.string)=ps.map Value.string:=by
     clear hvs hlen hx hle hdata hps
     induction ps with
     |nil=>rfl
     |cons p ps ih=>simp only[flat,List.map_cons,List.flatMap_cons,Value.cells]at ih ⊢;rw[ih];rfl
    rw[hlen]
    refine .lst 9 false _ _ N (ps.map Value.string) (by simp) (fun i v x hv hx=>?_) (fun v hv=>?_) (fun x hx=>?_) (by rw[hsz9];omega) (by simpa using hle) ⟨fun h=>(by cases h),fun p hp=>(by cases hp;simp)⟩ (fun p hp _=>?_)
    ·obtain⟨p,h1,rfl⟩:=bC hv
     obtain⟨p',h2,rfl⟩:=bC hx
     rw[h1]at h2;cases h2
     exact .str _
    ·obtain⟨p,_,rfl⟩:=List.mem_map.1 hv
     have h9:cfg.ty 9=tyT 9:=rfl
     have:∀q:List UInt8,bM cfg 9 (.str q)=true:=by intro q;kernel_rfl
     exact this _
    ·obtain⟨p,_,rfl⟩:=List.mem_map.1 hx
     rw[hsz9];rfl
    ·cases hp
     refine⟨rfl,fun j x hj=>?_⟩
     rw[hfl]at hj
     have hjl:j<ps.length:=by have:=(List.getElem?_eq_some_iff.1 hj).1;simpa using this
     refine⟨?_,by simp;omega⟩
     have hnew:(w.alloc (.cells (Lib.cellsOf ps N) 9)).heap[w.heap.size]? =some (.cells (Lib.cellsOf ps N) 9):=by show(w.heap.push _)[w.heap.size]? =_;simp
     simp only[World.cell?,hnew,Nat.zero_add]
     have:(Lib.cellsOf ps N)[j]? =some x:=by
      unfold Lib.cellsOf
      rw[List.getElem?_toArray,List.getElem?_append_left (by simpa using hjl)]
      exact hj
     simpa using this
  ·cases hF
 ·cases hF
theorem EQ:bP cfg 89 zP:=by
 refine gA fun args objs v objs' hF=>?_
 unfold zP at hF
 split at hF
 ·rename_i s n
  split at hF
  ·rename_i hn'
   cases hF
   refine⟨rfl,rfl,fun fn rsh hfn hrsh=>?_⟩
   have h1:cfg.fn 89=some Tryz.f89:=by kernel_rfl
   have h2:eA cfg 89 Tryz.f89=some [⟨false,[.int .i64]⟩]:=by kernel_rfl
   rw[h1]at hfn;cases hfn
   rw[h2]at hrsh;cases hrsh
   refine⟨rfl,fun w G cargs hn hl hr=>?_⟩
   have e0:=pR hr hl (i:=0) rfl
   have e1:=Ca hr hl (i:=1) rfl
   match cargs,hl,e0,e1 with
   |[x,y],_,e0,e1=>
    simp at e0 e1;subst e0;subst e1
    refine(vK ⟨s.toArray⟩ n w).mono ?_
    rintro e w' ⟨rfl,rfl⟩
    exact⟨_,G,rfl,⟨Nat.le_refl _,fun b hb=>⟨rfl,rfl⟩,hn,rfl,rfl,rfl⟩, .int _ _,rfl⟩
  ·cases hF
 ·cases hF
theorem F4:bP cfg 62 ofF:=by
 refine gA fun args objs v objs' hF=>?_
 unfold ofF at hF
 split at hF
 ·rename_i tp bs fr to
  split at hF
  ·rename_i hb
   simp only[Bool.and_eq_true,decide_eq_true_eq]at hb
   obtain⟨hby,hlen⟩:=hb
   cases hF
   refine⟨rfl,rfl,fun fn rsh hfn hrsh=>?_⟩
   have h1:cfg.fn 62=some Tryz.f62:=by kernel_rfl
   have h2:eA cfg 62 Tryz.f62=some [⟨false,[.lst 134 false]⟩]:=by kernel_rfl
   rw[h1]at hfn;cases hfn
   rw[h2]at hrsh;cases hrsh
   refine⟨rfl,fun w G cargs hn hl hr=>?_⟩
   match cargs,hl with
   |[x,y],_=>
    obtain⟨a,cap,lo,rfl,hlo,hrr,hf,hs,hz,hcap,ha,hrow⟩:=kG (hr 0 _ x rfl rfl) rfl
    have hy:y= .agg #[.int .i64 fr, .int .i64 to]:=by
     have:=hr 1 _ y rfl rfl
     cases this with
     |agg _ l hl hs hr2=>
      match l,hl with
      |[p,q],_=>
       have e1:=cA (hr2 0 _ p rfl rfl) rfl
       have e2:=cA (hr2 1 _ q rfl rfl) rfl
       subst e1;subst e2;rfl
    subst hy
    have hxb:=jQ hby
    have hbl:(bytesOf bs).length=bs.length:=by simp[bytesOf]
    have hlo' :lo=(bytesOf bs).map (fun b=>Value.int .u8 b.toNat):=by
     apply List.ext_getElem?
     intro i
     by_cases hi:i<bs.length
     ·have e1:bs[i]? =(ofBytes (bytesOf bs))[i]? :=by rw[hxb]
      simp only[ofBytes,List.getElem?_map]at e1
      rw[List.getElem?_eq_getElem (by omega:i<(bytesOf bs).length)]at e1
      have:=cA (hrr i _ lo[i] e1 (List.getElem?_eq_getElem (by omega))) rfl
      rw[List.getElem?_eq_getElem (by omega:i<lo.length),this,List.getElem?_map,List.getElem?_eq_getElem (by omega:i<(bytesOf bs).length)]
      rfl
     ·rw[List.getElem?_eq_none (by omega),List.getElem?_eq_none (by simp;omega)]
    have hcall:=GA a cap (bytesOf bs) fr to w (by omega) ha.1 (by omega) (fun p hp hne=>by
     obtain⟨g1,g2⟩:=hrow p hp (fun e=>hne (by rw[e];rfl))
     refine⟨g1,fun j x hj=>?_⟩
     exact(g2 j (.int .u8 x.toNat) (by rw[hlo',fP,List.getElem?_map,hj];rfl)).1)
    rw[hbl]at hcall
    refine hcall.mono ?_
    rintro e w' ⟨v,rfl,hown,hbel⟩
    have hsz:aC cfg 134=3:=by kernel_rfl
    have hfit:∀p q r:Int,bM cfg 134 (.agg [.int .i64 p, .int .i64 q, .int .i64 r])=true:=by intro p q r;kernel_rfl
    have hmk:∀(w' :World) (G' :Gh) (xs:List (Nat×Nat×Nat)) (a' :Option Addr) (cap' :Nat),xs.length≤cap'→((a' =none→cap' =0)∧∀p,a' =some p→p.block<w'.heap.size)→
      (∀p,a' =some p→xs≠[]→p.spot=none∧qW w' G' p.block p.off (eF xs))→Rep cfg w' G' [] (.lst 134 false (xs.map lnV)) (.slice a' xs.length cap'):=by
     intro w' G' xs a' cap' k1 k2 k3
     have hfl:flat (xs.map fZ)=eF xs:=by
      clear k1 k2 k3
      induction xs with
      |nil=>rfl
      |cons x xs ih=>simp only[flat,List.map_cons,List.flatMap_cons,eF]at ih ⊢;rw[ih];rfl
     have hlen' :xs.length=(xs.map lnV).length:=by simp
     rw[hlen']
     refine .lst 134 false _ a' cap' (xs.map fZ) (by simp) (fun i v x hv hx=>?_) (fun v hv=>?_) (fun x hx=>?_) (by rw[hsz];omega) (by simpa using k1) k2 (fun p hp hne=>?_)
     ·obtain⟨p,q1,rfl⟩:=bC hv
      obtain⟨p',q2,rfl⟩:=bC hx
      rw[q1]at q2;cases q2
      refine .agg _ [.int .i64 p.1, .int .i64 p.2.1, .int .i64 p.2.2] rfl (fun x hx=>?_) (fun i v x hv hx=>?_)
      ·simp at hx;rcases hx with rfl|rfl|rfl<;>rfl
      ·match i,hv,hx with
       |0,hv,hx=>simp at hv hx;subst hv;subst hx;exact .int _ _
       |1,hv,hx=>simp at hv hx;subst hv;subst hx;exact .int _ _
       |2,hv,hx=>simp at hv hx;subst hv;subst hx;exact .int _ _
     ·obtain⟨p,_,rfl⟩:=List.mem_map.1 hv
      exact hfit _ _ _
     ·obtain⟨p,_,rfl⟩:=List.mem_map.1 hx
      rw[hsz];rfl
     ·rw[hfl]
      exact k3 p hp (fun e=>hne (by rw[e];rfl))
    rcases hown.2 with⟨rfl,h0⟩|⟨g,cap',cur,rfl,hbg,hgb,hnc,hcm,hcs,htake⟩
    ·have hx0:=List.eq_nil_of_length_eq_zero h0
     refine⟨_,G,rfl,⟨hbel.size,fun b hb=>⟨hbel.block b hb,rfl⟩,fun b hb=>hn b (Nat.le_trans hbel.size hb),hbel.os,hbel.output,hbel.tape⟩,?_,rfl⟩
     have:=hmk w' G (bQ fr to (bytesOf bs)) none 0 (by omega) ⟨fun _=>rfl,fun p hp=>by cases hp⟩ (fun p hp=>by cases hp)
     rw[h0]at this
     exact this
    ·have hglt:g<w'.heap.size:=cN hgb
     refine⟨_,fun k=>if k=g then(bQ fr to (bytesOf bs)).length*3 else G k,rfl,⟨hbel.size,fun b hb=>⟨hbel.block b hb,?_⟩,fun b hb=>?_,hbel.os,hbel.output,hbel.tape⟩,?_,rfl⟩
     ·have:b≠g:=by omega
      simp[this]
     ·have:b≠g:=by omega
      simp[this,hn b (Nat.le_trans hbel.size hb)]
     ·refine hmk w' _ _ _ cap' hnc ⟨fun h=>(by cases h),fun p hp=>(by cases hp;exact hglt)⟩ (fun p hp _=>?_)
      cases hp
      refine⟨rfl,fun j x hj=>⟨?_,?_⟩⟩
      ·have:=hown.cells (g:=g) rfl j x hj
       rw[Addr.add_lit]at this
       exact this
      ·have hj' :=(List.getElem?_eq_some_iff.1 hj).1
       have:=hown.1
       simp only[if_true]
       omega
  ·cases hF
 ·cases hF
theorem Cb:bP cfg 75 zQ:=by
 refine gA fun args objs v objs' hF=>?_
 unfold zQ at hF
 split at hF
 ·rename_i tp bs
  split at hF
  ·rename_i hb
   simp only[Bool.and_eq_true,decide_eq_true_eq]at hb
   obtain⟨hby,hlen⟩:=hb
   cases hF
   refine⟨rfl,rfl,fun fn rsh hfn hrsh=>?_⟩
   have h1:cfg.fn 75=some Tryz.f75:=by kernel_rfl
   have h2:eA cfg 75 Tryz.f75=some [⟨false,[.lst 5 false]⟩]:=by kernel_rfl
   rw[h1]at hfn;cases hfn
   rw[h2]at hrsh;cases hrsh
   refine⟨rfl,fun w G cargs hn hl hr=>?_⟩
   match cargs,hl with
   |[x],_=>
    obtain⟨a,cap,lo,rfl,hlo,hrr,hf,hs,hz,hcap,ha,hrow⟩:=kG (hr 0 _ x rfl rfl) rfl
    have hxb:=jQ hby
    have hbl:(bytesOf bs).length=bs.length:=by simp[bytesOf]
    have hlo' :lo=(bytesOf bs).map (fun b=>Value.int .u8 b.toNat):=by
     apply List.ext_getElem?
     intro i
     by_cases hi:i<bs.length
     ·have e1:bs[i]? =(ofBytes (bytesOf bs))[i]? :=by rw[hxb]
      simp only[ofBytes,List.getElem?_map]at e1
      rw[List.getElem?_eq_getElem (by omega:i<(bytesOf bs).length)]at e1
      have:=cA (hrr i _ lo[i] e1 (List.getElem?_eq_getElem (by omega))) rfl
      rw[List.getElem?_eq_getElem (by omega:i<lo.length),this,List.getElem?_map,List.getElem?_eq_getElem (by omega:i<(bytesOf bs).length)]
      rfl
     ·rw[List.getElem?_eq_none (by omega),List.getElem?_eq_none (by simp;omega)]
    have hfl:flat lo=lo:=by rw[hlo',fP]
    have hsz:aC cfg 5=1:=by kernel_rfl
    have hmk:∀(w' :World) (G' :Gh) (a' :Option Addr) (cap' :Nat),bs.length≤cap'→((a' =none→cap' =0)∧∀p,a' =some p→p.block<w'.heap.size)→
      (∀p,a' =some p→bs≠[]→p.spot=none∧qW w' G' p.block p.off lo)→Rep cfg w' G' [] (.lst 5 false bs) (.slice a' bs.length cap'):=by
     intro w' G' a' cap' k1 k2 k3
     refine .lst 5 false bs a' cap' lo hlo (fun i v x hv hx=>?_) hf hs hz k1 k2 (fun p hp hne=>?_)
     ·rw[←hxb]at hv
      rw[hlo']at hx
      obtain⟨p,q1,rfl⟩:=bC hv
      obtain⟨p',q2,rfl⟩:=bC hx
      rw[q1]at q2;cases q2
      exact .int _ _
     ·rw[hfl];exact k3 p hp hne
    cases a with
    |none=>
     have hcap0:=ha.1 rfl
     have hb0:bs=[]:=List.eq_nil_of_length_eq_zero (by omega)
     refine(clone_nil bs.length cap w).mono ?_
     rintro e w' ⟨rfl,rfl⟩
     refine⟨_,G,rfl,⟨Nat.le_refl _,fun b hb=>⟨rfl,rfl⟩,hn,rfl,rfl,rfl⟩,?_,rfl⟩
     have:=hmk w' G none 0 (by rw[hb0];simp) ⟨fun _=>rfl,fun p hp=>by cases hp⟩ (fun p hp=>by cases hp)
     have hz0:bs.length=0:=by rw[hb0];rfl
     rw[hz0]at this
     exact this
    |some p=>
     have hcell:∀j u,lo[j]? =some u→w.cell? (p.add j)=some u:=fun j u hj=>by
      have hjl:=(List.getElem?_eq_some_iff.1 hj).1
      have hbne:bs≠[]:=fun e=>by
       have h0:lo.length=0:=by rw[hlo,e];rfl
       omega
      obtain⟨g1,g2⟩:=hrow p rfl hbne
      obtain⟨pb,po,ps⟩:=p
      simp only at g1
      subst g1
      rw[Addr.add_lit]
      exact(g2 j u (by rw[hfl];exact hj)).1
     have hone:∀u∈lo,u.oneCell' =true:=fun u hu=>by
      rw[hlo']at hu
      obtain⟨c,_,rfl⟩:=List.mem_map.1 hu
      rfl
     refine(C7 p bs.length cap lo w hlo (by unfold maxLen;omega) (by omega) hcell hone).mono ?_
     rintro e w' ⟨v,rfl,hown,hbel⟩
     rcases hown.2 with⟨rfl,h0⟩|⟨g,cap',cur,rfl,hbg,hgb,hnc,hcm,hcs,htake⟩
     ·refine⟨_,G,rfl,⟨hbel.size,fun b hb=>⟨hbel.block b hb,rfl⟩,fun b hb=>hn b (Nat.le_trans hbel.size hb),hbel.os,hbel.output,hbel.tape⟩,?_,rfl⟩
      have:=hmk w' G none 0 (by omega) ⟨fun _=>rfl,fun p hp=>by cases hp⟩ (fun p hp=>by cases hp)
      rw[h0]at this
      exact this
     ·have hglt:g<w'.heap.size:=cN hgb
      refine⟨_,fun k=>if k=g then bs.length*1 else G k,rfl,⟨hbel.size,fun b hb=>⟨hbel.block b hb,?_⟩,fun b hb=>?_,hbel.os,hbel.output,hbel.tape⟩,?_,rfl⟩
      ·have:b≠g:=by omega
       simp[this]
      ·have:b≠g:=by omega
       simp[this,hn b (Nat.le_trans hbel.size hb)]
      ·refine hmk w' _ _ cap' hnc ⟨fun h=>(by cases h),fun p hp=>(by cases hp;exact hglt)⟩ (fun p hp _=>?_)
       cases hp
       refine⟨rfl,fun j x hj=>⟨?_,?_⟩⟩
       ·have:=hown.cells (g:=g) rfl j x hj
        rw[Addr.add_lit]at this
        exact this
       ·have hj' :=(List.getElem?_eq_some_iff.1 hj).1
        have:=hown.1
        simp only[if_true]
        omega
  ·cases hF
 ·cases hF
theorem Da:bP cfg 85 sK:=by
 refine gA fun args objs v objs' hF=>?_
 unfold sK at hF
 split at hF
 ·rename_i t xs s
  split at hF
  ·rename_i hb
   cases hF
   refine⟨rfl,rfl,fun fn rsh hfn hrsh=>?_⟩
   have h1:cfg.fn 85=some Tryz.f85:=by kernel_rfl
   have h2:eA cfg 85 Tryz.f85=some [⟨false,[.str]⟩]:=by kernel_rfl
   rw[h1]at hfn;cases hfn
   rw[h2]at hrsh;cases hrsh
   refine⟨rfl,fun w G cargs hn hl hr=>?_⟩
   match cargs,hl with
   |[x,y],_=>
    have hx:=hr 0 _ x rfl rfl
    have hy:=iD (hr 1 _ y rfl rfl) rfl
    subst hy
    cases hx with
    |lst e t xs a cap l hl hrr hf hs hz hc ha hrow=>
     have hsz:aC cfg 9=1:=by kernel_rfl
     have hstr:∀v∈xs,v= .str v.getS:=fun v hv=>by
      have h9:cfg.ty 9=some ⟨Tryz.t9.desc,1,16,false,[CSh.str],[V.str []],true⟩:=by kernel_rfl
      have:=hf v hv
      simp only[bM,h9,RSh.fits,Bool.false_eq_true,if_false,bR,Bool.and_true]at this
      cases v<;>simp[CSh.fits]at this
      rfl
     have hcell:∀(j:Nat) x,(xs.map fun v=>(⟨v.getS.toArray⟩:ByteArray))[j]? =some x→l[j]? =some (.string x):=fun j x hj=>by
      obtain⟨v,hv,rfl⟩:=bC hj
      have hlt:=(List.getElem?_eq_some_iff.1 hv).1
      have hlj:=List.getElem?_eq_getElem (l:=l) (i:=j) (by omega)
      have:=hrr j v _ hv hlj
      rw[hstr v (List.mem_of_getElem? hv)]at this
      rw[hlj,iD this rfl]
     have hfl:flat l=l:=by
      have:∀m:List Value,(∀x∈m,∃s:ByteArray,x= .string s)→flat m=m:=by
       intro m
       induction m with
       |nil=>intro _;rfl
       |cons x m ih=>
        intro h
        obtain⟨s,rfl⟩:=h x (by simp)
        have:=ih fun y hy=>h y (by simp[hy])
        simp only[flat]at this ⊢
        rw[List.flatMap_cons,this]
        rfl
      refine this l fun x hx=>?_
      obtain⟨j,hj⟩:=List.getElem?_of_mem hx
      have hlt:=(List.getElem?_eq_some_iff.1 hj).1
      have:=hcell j _ (by rw[List.getElem?_map,List.getElem?_eq_getElem (by omega:j<xs.length)];rfl)
      rw[hj]at this
      exact⟨_,Option.some.inj this⟩
     have hmap:(xs.map fun v=>(⟨v.getS.toArray⟩:ByteArray)).map (·.data.toList)=xs.map V.getS:=by rw[List.map_map];rfl
     cases a with
     |none=>
      have hcap0:=ha.1 rfl
      have hx0:xs=[]:=List.eq_nil_of_length_eq_zero (by omega)
      subst hx0
      refine(strings_Join_none none cap ⟨s.toArray⟩ w).mono ?_
      rintro e w' ⟨rfl,rfl⟩
      exact⟨_,G,rfl,⟨Nat.le_refl _,fun b hb=>⟨rfl,rfl⟩,hn,rfl,rfl,rfl⟩, .str _,rfl⟩
     |some p=>
      by_cases hx0:xs=[]
      ·subst hx0
       refine(strings_Join_none (some p) cap ⟨s.toArray⟩ w).mono ?_
       rintro e w' ⟨rfl,rfl⟩
       exact⟨_,G,rfl,⟨Nat.le_refl _,fun b hb=>⟨rfl,rfl⟩,hn,rfl,rfl,rfl⟩, .str _,rfl⟩
      ·obtain⟨g1,g2⟩:=hrow p rfl hx0
       have hpb:=ha.2 p rfl
       obtain⟨pb,po,ps⟩:=p
       simp only at g1 hpb
       subst g1
       have:=strings_Join pb po cap (xs.map fun v=>(⟨v.getS.toArray⟩:ByteArray)) ⟨s.toArray⟩ w (fun j x hj=>(g2 j _ (by rw[hfl];exact hcell j x hj)).1) hpb (by rw[List.length_map];exact hb.1) (by rw[List.length_map];exact hc) (by rw[hmap];exact hb.2)
       rw[List.length_map,hmap]at this
       refine this.mono ?_
       rintro e w' ⟨rfl,hbel⟩
       exact⟨_,G,rfl,⟨hbel.size,fun b hb=>⟨hbel.block b hb,rfl⟩,fun b hb=>hn b (Nat.le_trans hbel.size hb),hbel.os,hbel.output,hbel.tape⟩, .str _,rfl⟩
  ·cases hF
 ·cases hF
theorem Cc:bP cfg 48 zR:=by
 refine gA fun args objs v objs' hF=>?_
 unfold zR at hF
 split at hF
 ·rename_i tp bs fr to
  split at hF
  ·rename_i hb
   simp only[Bool.and_eq_true,decide_eq_true_eq]at hb
   obtain⟨hby,hlen⟩:=hb
   cases hF
   refine⟨rfl,rfl,fun fn rsh hfn hrsh=>?_⟩
   have h1:cfg.fn 48=some Tryz.f48:=by kernel_rfl
   have h2:eA cfg 48 Tryz.f48=some [⟨false,[.int .i64]⟩]:=by kernel_rfl
   rw[h1]at hfn;cases hfn
   rw[h2]at hrsh;cases hrsh
   refine⟨rfl,fun w G cargs hn hl hr=>?_⟩
   match cargs,hl with
   |[x,y],_=>
    obtain⟨a,cap,lo,rfl,hlo,hrr,hf,hs,hz,hcap,ha,hrow⟩:=kG (hr 0 _ x rfl rfl) rfl
    have hy:y= .agg #[.int .i64 fr, .int .i64 to]:=by
     have:=hr 1 _ y rfl rfl
     cases this with
     |agg _ l hl hs hr2=>
      match l,hl with
      |[p,q],_=>
       have e1:=cA (hr2 0 _ p rfl rfl) rfl
       have e2:=cA (hr2 1 _ q rfl rfl) rfl
       subst e1;subst e2;rfl
    subst hy
    have hxb:=jQ hby
    have hbl:(bytesOf bs).length=bs.length:=by simp[bytesOf]
    have hlo' :lo=(bytesOf bs).map (fun b=>Value.int .u8 b.toNat):=by
     apply List.ext_getElem?
     intro i
     by_cases hi:i<bs.length
     ·have e1:bs[i]? =(ofBytes (bytesOf bs))[i]? :=by rw[hxb]
      simp only[ofBytes,List.getElem?_map]at e1
      rw[List.getElem?_eq_getElem (by omega:i<(bytesOf bs).length)]at e1
      have:=cA (hrr i _ lo[i] e1 (List.getElem?_eq_getElem (by omega))) rfl
      rw[List.getElem?_eq_getElem (by omega:i<lo.length),this,List.getElem?_map,List.getElem?_eq_getElem (by omega:i<(bytesOf bs).length)]
      rfl
     ·rw[List.getElem?_eq_none (by omega),List.getElem?_eq_none (by simp;omega)]
    have hcall:=B1 a cap (bytesOf bs) fr to w (by omega) ha.1 (by omega) (fun p hp hne=>by
     obtain⟨g1,g2⟩:=hrow p hp (fun e=>hne (by rw[e];rfl))
     refine⟨g1,fun j x hj=>?_⟩
     exact(g2 j (.int .u8 x.toNat) (by rw[hlo',fP,List.getElem?_map,hj];rfl)).1)
    rw[hbl]at hcall
    refine(callsIn_wide.1 hcall).mono ?_
    rintro e w' ⟨rfl,hbel⟩
    exact⟨_,G,rfl,⟨hbel.size,fun b hb=>⟨hbel.block b hb,rfl⟩,fun b hb=>hn b (Nat.le_trans hbel.size hb),hbel.os,hbel.output,hbel.tape⟩, .int _ _,rfl⟩
  ·cases hF
 ·cases hF
theorem Cd:∀f h,B8 f=some h→bP cfg f h:=by
 intro f h hf
 unfold B8 at hf
 split at hf
 ·rename_i e;subst e;cases hf;exact C9
 split at hf
 ·rename_i e;subst e;cases hf;exact split_ok
 split at hf
 ·rename_i e;subst e;cases hf;exact EP
 split at hf
 ·rename_i e;subst e;cases hf;exact F4
 split at hf
 ·rename_i e;subst e;cases hf;exact EQ
 split at hf
 ·rename_i e;subst e;cases hf;exact Cb
 split at hf
 ·rename_i e;subst e;cases hf;exact Da
 split at hf
 ·rename_i e;subst e;cases hf;exact Cc
 split at hf
 ·rename_i e;subst e;cases hf
  refine B2 rfl (fun t ht=>by simpa[cfg,eC,F3]using ht) rfl (fun fn rsh hfn hrsh=>?_)
  have h1:cfg.fn 54=some Tryz.f54:=by kernel_rfl
  have h2:eA cfg 54 Tryz.f54=some []:=by kernel_rfl
  rw[h1]at hfn;cases hfn
  rw[h2]at hrsh;cases hrsh
  rfl
 split at hf
 ·rename_i e;subst e;cases hf
  refine C6 B9 rfl rfl (by kernel_rfl) (by kernel_rfl) (fun fn rsh s hfn hrsh=>?_)
  have h1:cfg.fn 29=some Tryz.f29:=by kernel_rfl
  have h2:eA cfg 29 Tryz.f29=some [⟨false,[.str]⟩]:=by kernel_rfl
  rw[h1]at hfn;cases hfn
  rw[h2]at hrsh;cases hrsh
  rfl
 cases hf
theorem Db:∀f h,cfg.hand f=some h→∀call,(∀g,bP cfg g (call g))→bP cfg f (h call):=by
 intro f h hf call hcall
 have hf:hand f=some h:=hf
 unfold hand at hf
 obtain⟨h0,h1,rfl⟩:=Option.map_eq_some_iff.1 hf
 exact Cd f h0 h1
end Go.Proofs.YtdoaoaicdimbeaaGreatDoor
end
section
namespace Go.Proofs.YtdoaoaicdimbeaaGreatDoor
open Go.Ev Go
abbrev Bs:=List UInt8
def Ret (f:FuncId) (args:List V) (objs:List Ob) (r:V×List Ob):Prop:=∃K,∀k,K≤k→aB cfg k f args objs=some r
def Evt {α:Type} (g:Nat→Nat→Option α) (r:α):Prop:=∃K,∀k n,K≤k→K≤n→g k n=some r
theorem bX {f:FuncId} {args:List V} {objs:List Ob} {r:V×List Ob} {g:Nat→Nat→Option (V×List Ob)} (hc:∀k,aB cfg (k+1) f args objs=g k k) (h:Evt g r):Ret f args objs r:=by
 obtain⟨K,h⟩:=h
 refine⟨K+1,fun k hk=>?_⟩
 obtain⟨j,rfl⟩:∃j,k=j+1:=⟨k - 1,by omega⟩
 rw[hc];exact h j j (by omega) (by omega)
theorem fC {α:Type} {g g' :Nat→Nat→Option α} {r:α} (hg:∀k n,g k (n+1)=g' k n) (h:Evt g' r):Evt g r:=by
 obtain⟨K,h⟩:=h
 refine⟨K+1,fun k n hk hn=>?_⟩
 obtain⟨j,rfl⟩:∃j,n=j+1:=⟨n - 1,by omega⟩
 rw[hg];exact h k j (by omega) (by omega)
theorem aM {α:Type} (r:α):Evt (fun _ _=>some r) r:=⟨0,fun _ _ _ _=>rfl⟩
theorem aL {α:Type} {f:FuncId} {args:List V} {objs:List Ob} {p:V×List Ob} {F:Nat→Nat→V×List Ob→Option α} {r:α} (h:Ret f args objs p) (h2:Evt (fun k n=>F k n p) r):
  Evt (fun k n=>Option.bind (aB cfg k f args objs) (F k n)) r:=by
 obtain⟨K,h⟩:=h
 obtain⟨K2,h2⟩:=h2
 refine⟨K+K2,fun k n hk hn=>?_⟩
 show Option.bind (aB cfg k f args objs) (F k n)=some r
 rw[h k (by omega)]
 exact h2 k n (by omega) (by omega)
theorem lT {f:FuncId} {args:List V} {objs:List Ob} {r:V×List Ob} {h:Go.Ev.Fun} (hh:cfg.hand f=some fun _=>h) (e:h args objs=some r):Ret f args objs r:=by
 refine⟨1,fun k hk=>?_⟩
 obtain⟨j,rfl⟩:∃j,k=j+1:=⟨k - 1,by omega⟩
 simp only[aB,hh];exact e
noncomputable def FIN (f:FuncId) (fn:Func) (objs:List Ob):St→Option (V×List Ob):=vX cfg fn (finish cfg fn f (List.map OSh.of objs))
noncomputable def RM (f:FuncId) (fn:Func) (objs:List Ob) (call:FuncId→Go.Ev.Fun) (icall:aO (V×List Ob)) (again:List It→St→Option (V×List Ob)) (its:List It) (st:St):Option (V×List Ob):=
 bH cfg call icall (slotsOf fn.results.toList) (List.length objs) again (FIN f fn objs) depth its st
noncomputable def RN (f:FuncId) (fn:Func) (objs:List Ob) (call:FuncId→Go.Ev.Fun) (icall:aO (V×List Ob)) (n:Nat) (its:List It) (st:St):Option (V×List Ob):=
 Go.Ev.runN cfg call icall (slotsOf fn.results.toList) (List.length objs) (FIN f fn objs) n its st
noncomputable def GO (f:FuncId) (fn:Func) (args:List V) (objs:List Ob) (call:FuncId→Go.Ev.Fun) (icall:aO (V×List Ob)) (again:List It→St→Option (V×List Ob)):Option (V×List Ob):=
 yK args fn.ntmps fun env=>RM f fn objs call icall again [.code (codeOf fn)] ⟨env,objs⟩
theorem lU {R:Type} (x:Option R):chk true x=x:=rfl
theorem aW {R:Type} {p:Prop} [Decidable p] (h:p) (x:Option R):chk (decide p) x=x:=by simp[chk,h]
theorem eQ {R:Type} {b:Bool} (h:b=true) (x:Option R):chk b x=x:=by subst h;rfl
theorem vM {α β:Type} (a:α) (f:α→Option β):Option.bind (some a) f=f a:=rfl
theorem wrap64 {n:Int} (h1: -9223372036854775808≤n) (h2:n<9223372036854775808):IntKind.wrap .i64 n=n:=by
 rw[IntKind.wrap_i64];omega
theorem F5 {n:Int} (h1:0≤n) (h2:n<256):IntKind.wrap .u8 n=n:=by
 rw[IntKind.wrap_u8'];omega
theorem kO {x y:Bs} (h:x.length+y.length≤9223372036854775807):cH x y=true:=by simp[cH,h]
theorem lV {x y:List V} {n:Nat} (h:(x.length+y.length)*n≤70368744177664):cK x y n=true:=by simp[cK,h]
theorem dX (l:Bs) (c:UInt8):ofBytes l++[.int .u8 (c.toNat:Int)]=ofBytes (l++[c]):=by simp[ofBytes]
theorem eG (l:Bs):bytesOf (ofBytes l)=l:=by
 simp[bytesOf,ofBytes,V.getI,Function.comp_def]
theorem dD (l:Bs):(ofBytes l).length=l.length:=by simp[ofBytes]
theorem getD_at {s:Bs} {i:Nat} (h:i<s.length):s.getD i 0=s[i]:=by simp[List.getD,h]
theorem drop_at {s:Bs} {i:Nat} (h:i<s.length):s.drop i=s[i]::s.drop (i+1):=List.drop_eq_getElem_cons h
end Go.Proofs.YtdoaoaicdimbeaaGreatDoor
end
section
namespace Go.Proofs.YtdoaoaicdimbeaaGreatDoor
open Go.Ev Go
open List (headD tail getD length drop take)
open V (getI getL getT getS getB)
set_option maxRecDepth 100000
variable (call : FuncId → Fun) (icall : aO (V × List Ob)) (again : List It → St → Option (V × List Ob))
def xT (call:FuncId→Fun) (ag0:Int→List UInt8→Bool→Option (V×List Ob)) (i0:Int) (s1:List UInt8) (b2:Bool):Option (V×List Ob):=
 if(i0 != (0:Int))=true then
 chk ((10:Int) != 0) (chk (cH ((Utf8.encode (IntKind.wrap IntKind.i32 (IntKind.wrap .i64 ((48:Int)+(if(IntKind.wrap .i64 ((0:Int) - (Int.tmod i0 (10:Int))))>(Int.tmod i0 (10:Int))then(IntKind.wrap .i64 ((0:Int) - (Int.tmod i0 (10:Int))))else(Int.tmod i0 (10:Int))))))).data.toList) s1) (chk ((10:Int) != 0) ((ag0 ((IntKind.wrap .i64 (Int.tdiv i0 (10:Int)))) ((((Utf8.encode (IntKind.wrap IntKind.i32 (IntKind.wrap .i64 ((48:Int)+(if(IntKind.wrap .i64 ((0:Int) - (Int.tmod i0 (10:Int))))>(Int.tmod i0 (10:Int))then(IntKind.wrap .i64 ((0:Int) - (Int.tmod i0 (10:Int))))else(Int.tmod i0 (10:Int))))))).data.toList)++s1)) (b2)))))
 else
 if b2=true then
 chk (cH [45] s1) (some ((V.str ([45]++s1)),[]))
 else
 some ((V.str s1),[])
def T47 (call:FuncId→Fun) (ag0:Int→List UInt8→Bool→Option (V×List Ob)) (a0:Int):Option (V×List Ob):=
 if(a0==(0:Int))=true then
 some ((V.str [48]),[])
 else
 (ag0 (a0) ([]) ((decide (a0<(0:Int)))))
def A47 (a0:Int):List V:=[V.int IntKind.i64 a0]
def uC (i0:Int) (s1:List UInt8) (b2:Bool):St:=⟨[(V.int IntKind.i64 i0),V.bot,V.bot,(V.str s1),(V.bool b2)]++List.replicate 24 V.bot,[]⟩
theorem F6 (i0:Int) (s1:List UInt8) (b2:Bool):
 RM 47 Tryz.f47 [] call icall again (bE Tryz.f47 0) (uC i0 s1 b2)=xT call (fun i0 s1 b2=>again (bE Tryz.f47 0) (uC i0 s1 b2)) i0 s1 b2:=by kernel_rfl
theorem E47 (a0:Int):GO 47 Tryz.f47 (A47 a0) [] call icall again=T47 call (fun i0 s1 b2=>again (bE Tryz.f47 0) (uC i0 s1 b2)) a0:=by kernel_rfl
def L47 (call:FuncId→Fun):Nat→(Int→List UInt8→Bool→Option (V×List Ob))
 |0=>fun _ _ _=>none
 |n+1=>xT call (L47 call n)
theorem R47 (call:FuncId→Fun) (icall:aO (V×List Ob)):∀n,(∀(i0:Int) (s1:List UInt8) (b2:Bool),RN 47 Tryz.f47 [] call icall n (bE Tryz.f47 0) (uC i0 s1 b2)=(L47 call n) i0 s1 b2)
 |0=>fun i0 s1 b2=>rfl
 |n+1=>by
  have ih:=R47 call icall n
  exact fun i0 s1 b2=>(F6 call icall (RN 47 Tryz.f47 [] call icall n) i0 s1 b2).trans (by rw[show(fun i0 s1 b2=>RN 47 Tryz.f47 [] call icall n (bE Tryz.f47 0) (uC i0 s1 b2))=(L47 call n)from(funext fun i0=>funext fun s1=>funext fun b2=>ih i0 s1 b2)];rfl)
theorem C47 (k:Nat) (a0:Int):aB cfg (k+1) 47 (A47 a0) []=T47 (aB cfg k) (L47 (aB cfg k) k) a0:=by
 have ih:=R47 (aB cfg k) (aN cfg (aB cfg k) 20) k
 refine(show aB cfg (k+1) 47 (A47 a0) []=GO 47 Tryz.f47 (A47 a0) [] (aB cfg k) (aN cfg (aB cfg k) 20) (RN 47 Tryz.f47 [] (aB cfg k) (aN cfg (aB cfg k) 20) k)by kernel_rfl).trans ((E47 _ _ _ a0).trans ?_)
 rw[show(fun i0 s1 b2=>RN 47 Tryz.f47 [] (aB cfg k) (aN cfg (aB cfg k) 20) k (bE Tryz.f47 0) (uC i0 s1 b2))=(L47 (aB cfg k) k)from(funext fun i0=>funext fun s1=>funext fun b2=>ih i0 s1 b2)]
theorem M47 (a0:Int) {r:V×List Ob} (h:Evt (fun k n=>T47 (aB cfg k) (L47 (aB cfg k) n) a0) r):Ret 47 [V.int IntKind.i64 a0] [] r:=bX (g:=fun k n=>T47 (aB cfg k) (L47 (aB cfg k) n) a0) (fun k=>C47 k a0) h
theorem Ed (i0:Int) (s1:List UInt8) (b2:Bool) {r:V×List Ob} (h:Evt (fun k n=>xT (aB cfg k) (L47 (aB cfg k) n) i0 s1 b2) r):Evt (fun k n=>(L47 (aB cfg k) n) i0 s1 b2) r:=fC (fun k n=>rfl) h
end Go.Proofs.YtdoaoaicdimbeaaGreatDoor
end
section
namespace Go.Proofs.YtdoaoaicdimbeaaGreatDoor
open Go.Ev Go
theorem Ce (a b:UInt8):(((a.toNat:Nat):Int)==((b.toNat:Nat):Int))=(a==b):=by
 by_cases h:a=b
 ·subst h;simp
 ·have:a.toNat≠b.toNat:=fun e=>h (UInt8.toNat_inj.1 e)
  have h1:(a==b)=false:=by simpa using h
  rw[h1];simp;omega
theorem jR (a:UInt8) (n:Nat) (h:n<256):(((a.toNat:Nat):Int)==(n:Int))=(a==UInt8.ofNat n):=by
 have:(UInt8.ofNat n).toNat=n:=by simp;omega
 have:=Ce a (UInt8.ofNat n)
 rwa [‹(UInt8.ofNat n).toNat=n›]at this
end Go.Proofs.YtdoaoaicdimbeaaGreatDoor
end
section
namespace Go.Proofs.YtdoaoaicdimbeaaGreatDoor
open Go.Ev Go
end Go.Proofs.YtdoaoaicdimbeaaGreatDoor
end
section
namespace Go.Proofs.YtdoaoaicdimbeaaGreatDoor
open Go.Ev Go
abbrev Ps:=List (Bs×Bs)
end Go.Proofs.YtdoaoaicdimbeaaGreatDoor
end
section
namespace Go.Proofs.YtdoaoaicdimbeaaGreatDoor
open Go.Ev Go
end Go.Proofs.YtdoaoaicdimbeaaGreatDoor
end
section
namespace Go.Proofs.YtdoaoaicdimbeaaGreatDoor
open Go.Ev Go
def bT (n:Nat):Bs:=if n<10 then[UInt8.ofNat (48+n)]else bT (n / 10)++[UInt8.ofNat (48+n % 10)]
termination_by n
theorem dG {n:Nat} (h:n<10):bT n=[UInt8.ofNat (48+n)]:=by rw[bT,if_pos h]
theorem iK {n:Nat} (h:¬n<10):bT n=bT (n / 10)++[UInt8.ofNat (48+n % 10)]:=by rw[bT,if_neg h]
theorem qJ:∀n:Nat,(bT n).length≤n+1:=by
 intro n
 induction n using Nat.strongRecOn with
 |_ n ih=>
  by_cases h:n<10
  ·rw[dG h];simp
  ·rw[iK h]
   have:=ih (n / 10) (by omega)
   simp;omega
theorem F7:∀d:Fin 10,(Utf8.encode (IntKind.wrap .i32 (IntKind.wrap .i64 (48+(d.val:Int))))).data.toList=[UInt8.ofNat (48+d.val)]:=by decide+kernel
theorem ER:∀(n:Nat) (out:Bs),0<n→n+out.length≤2000000000→Evt (fun k m=>L47 (aB cfg k) m (n:Int) out false) (.str (bT n++out),[]):=by
 intro n
 induction n using Nat.strongRecOn with
 |_ n ih=>
  intro out hn hb
  refine Ed (n:Int) out false ?_
  have h1:((n:Int) != 0)=true:=by simp;omega
  have h2:((10:Int) != 0)=true:=by decide
  have ht:Int.tmod (n:Int) 10=((n % 10:Nat):Int):=by rw[Int.tmod_eq_emod_of_nonneg (by omega)];omega
  have hq:IntKind.wrap .i64 (Int.tdiv (n:Int) 10)=((n / 10:Nat):Int):=by
   rw[Int.tdiv_eq_ediv_of_nonneg (by omega),wrap64 (by omega) (by omega)];omega
  have hm:IntKind.wrap .i64 (0 - ((n % 10:Nat):Int))= -((n % 10:Nat):Int):=by rw[wrap64 (by omega) (by omega)];omega
  have hng:¬(-((n % 10:Nat):Int)>((n % 10:Nat):Int)):=by omega
  have he:=F7 ⟨n % 10,by omega⟩
  simp only at he
  have hc:cH [UInt8.ofNat (48+n % 10)] out=true:=kO (by simp;omega)
  simp only[xT,h1,if_true,h2,lU,ht,hq,hm,hng,if_false,he,eQ hc]
  by_cases hs:n<10
  ·have e:n / 10=0:=by omega
   have e' :n % 10=n:=by omega
   rw[e,e',dG hs]
   refine Ed ((0:Nat):Int) _ false ?_
   have h0:((((0:Nat):Int)) != 0)=false:=by decide
   simp only[xT,h0,Bool.false_eq_true,if_false]
   exact aM _
  ·rw[iK hs]
   have:=ih (n / 10) (by omega) ([UInt8.ofNat (48+n % 10)]++out) (by omega) (by simp;omega)
   simpa using this
theorem F8 (n:Nat) (hn:n≤1000000001):Ret 47 [.int .i64 (n:Int)] [] (.str (bT n),[]):=by
 refine M47 (n:Int) ?_
 simp only[T47]
 by_cases h:n=0
 ·subst h
  have h0:((((0:Nat):Int))==0)=true:=by decide
  simp only[h0,if_true,dG (show 0<10 by omega)]
  exact aM _
 ·have h0:((n:Int)==0)=false:=by simp;omega
  have h1:¬((n:Int)<0):=by omega
  simp only[h0,Bool.false_eq_true,if_false,h1,decide_false]
  have:=ER n [] (by omega) (by simp;omega)
  simpa using this
end Go.Proofs.YtdoaoaicdimbeaaGreatDoor
end
section
namespace Go.Proofs.YtdoaoaicdimbeaaGreatDoor
open Go.Ev Go
def F9 (ds:Bs):Nat:=ds.foldl (fun a d=>10*a+(d.toNat - 48)) 0
theorem jS {d:Nat} (h:d<10):(UInt8.ofNat (48+d)).toNat=48+d:=by simp;omega
theorem A9:∀n:Nat,F9 (bT n)=n:=by
 intro n
 induction n using Nat.strongRecOn with
 |_ n ih=>
  by_cases h:n<10
  ·rw[dG h]
   show 10*0+((UInt8.ofNat (48+n)).toNat - 48)=n
   rw[jS h];omega
  ·rw[iK h]
   have:=ih (n / 10) (by omega)
   unfold F9 at this ⊢
   rw[List.foldl_append,this]
   show 10* (n / 10)+((UInt8.ofNat (48+n % 10)).toNat - 48)=n
   rw[jS (by omega)];omega
end Go.Proofs.YtdoaoaicdimbeaaGreatDoor
end
section
namespace Go.Proofs.YtdoaoaicdimbeaaGreatDoor
open Go.Ev Go
def getF:Ps→Bs→Option Bs
 |[],_=>none
 |p::r,name=>if p.1.map EN=name.map EN then some p.2 else getF r name
end Go.Proofs.YtdoaoaicdimbeaaGreatDoor
end
section
namespace Go.Proofs.YtdoaoaicdimbeaaGreatDoor
open Go.Ev Go
open List (headD tail getD length drop take)
open V (getI getL getT getS getB)
set_option maxRecDepth 100000
variable (call : FuncId → Fun) (icall : aO (V × List Ob)) (again : List It → St → Option (V × List Ob))
def T27 (call:FuncId→Fun) (a0:List V) (a1:List UInt8):Option (V×List Ob):=
 Option.bind (call 54 [(V.ref 0 0)] [(Ob.cells [(V.opt 0 0),(V.lst 5 true a0)])]) fun z0=>
 chk (jV (getL (headD (tail (Ob.getC (headD z0.2 Ob.dead))) V.bot)) a1 2) (some ((V.tup [(V.int .i64 ((length a1:Nat):Int)),(V.raw (Value.nilIface))]),[(Ob.cells [(V.opt 0 0),(V.lst 5 true ((getL (headD (tail (Ob.getC (headD z0.2 Ob.dead))) V.bot))++(ofBytes a1)))])]))
def O27 (a0:List V):List Ob:=[Ob.cells [V.opt 0 0,V.lst 5 true a0]]
def A27 (a1:List UInt8):List V:=[V.ref 0 0,V.str a1]
theorem E27 (a0:List V) (a1:List UInt8):GO 27 Tryz.f27 (A27 a1) (O27 a0) call icall again=T27 call a0 a1:=by kernel_rfl
theorem C27 (k:Nat) (a0:List V) (a1:List UInt8):aB cfg (k+1) 27 (A27 a1) (O27 a0)=T27 (aB cfg k) a0 a1:=
 (show aB cfg (k+1) 27 (A27 a1) (O27 a0)=GO 27 Tryz.f27 (A27 a1) (O27 a0) (aB cfg k) (aN cfg (aB cfg k) 20) (RN 27 Tryz.f27 (O27 a0) (aB cfg k) (aN cfg (aB cfg k) 20) k)by kernel_rfl).trans (E27 _ _ _ a0 a1)
theorem M27 (a0:List V) (a1:List UInt8) {r:V×List Ob} (h:Evt (fun k n=>T27 (aB cfg k) a0 a1) r):Ret 27 [V.ref 0 0,V.str a1] [Ob.cells [V.opt 0 0,V.lst 5 true a0]] r:=bX (g:=fun k n=>T27 (aB cfg k) a0 a1) (fun k=>C27 k a0 a1) h
end Go.Proofs.YtdoaoaicdimbeaaGreatDoor
end
section
namespace Go.Proofs.YtdoaoaicdimbeaaGreatDoor
open Go.Ev Go
theorem sX (b:Bs):(ofBytes b).all nA=true:=by
 simp only[List.all_eq_true,ofBytes,List.mem_map]
 rintro v ⟨c,_,rfl⟩
 have:=c.toNat_lt
 simp[nA];omega
end Go.Proofs.YtdoaoaicdimbeaaGreatDoor
end
section
namespace Go.Proofs.YtdoaoaicdimbeaaGreatDoor
open Go.Ev Go
end Go.Proofs.YtdoaoaicdimbeaaGreatDoor
end
section
namespace Go.Proofs.YtdoaoaicdimbeaaGreatDoor
open Go.Ev Go
end Go.Proofs.YtdoaoaicdimbeaaGreatDoor
end
section
namespace Go.Proofs.YtdoaoaicdimbeaaGreatDoor
open Go.Ev Go
end Go.Proofs.YtdoaoaicdimbeaaGreatDoor
end
section
namespace Go.Proofs.YtdoaoaicdimbeaaGreatDoor
open Go.Ev Go
theorem Ga (o s:Bs) (h:o.length+s.length≤35000000000000):
  Ret 27 [.ref 0 0, .str s] [.cells [.opt 0 0, .lst 5 true (ofBytes o)]] (.tup [.int .i64 (s.length:Nat), .raw .nilIface],[.cells [.opt 0 0, .lst 5 true (ofBytes (o++s))]]):=by
 refine M27 (ofBytes o) s ?_
 have h108:Ret 54 [.ref 0 0] [.cells [.opt 0 0, .lst 5 true (ofBytes o)]] (.tup [],[.cells [.opt 0 0, .lst 5 true (ofBytes o)]]):=lT (h:=checkF) (by kernel_rfl) rfl
 have hap:jV (ofBytes o) s 2=true:=by simp[jV,dD];omega
 have hof:ofBytes o++ofBytes s=ofBytes (o++s):=by simp[ofBytes]
 simp only[T27]
 refine aL h108 ?_
 simp only[List.headD_cons,Ob.getC,List.tail_cons,V.getL,eQ hap,hof]
 exact aM _
end Go.Proofs.YtdoaoaicdimbeaaGreatDoor
end
section
namespace Go.Proofs.YtdoaoaicdimbeaaGreatDoor
open Go.Ev Go
open List (headD tail getD length drop take)
open V (getI getL getT getS getB)
set_option maxRecDepth 100000
variable (call : FuncId → Fun) (icall : aO (V × List Ob)) (again : List It → St → Option (V × List Ob))
end Go.Proofs.YtdoaoaicdimbeaaGreatDoor
end
section
namespace Go.Proofs.YtdoaoaicdimbeaaGreatDoor
open Go.Ev Go
end Go.Proofs.YtdoaoaicdimbeaaGreatDoor
end
section
namespace Go.Proofs.YtdoaoaicdimbeaaGreatDoor
open Go.Ev Go
end Go.Proofs.YtdoaoaicdimbeaaGreatDoor
end
section
namespace Go.Proofs.YtdoaoaicdimbeaaGreatDoor
open Go.Ev Go
def Gb (fin:Nat):List (Nat×Nat)→Nat
 |[]=>fin
 |d::_=>d.1
end Go.Proofs.YtdoaoaicdimbeaaGreatDoor
end
section
namespace Go.Proofs.YtdoaoaicdimbeaaGreatDoor
open Go.Ev Go
end Go.Proofs.YtdoaoaicdimbeaaGreatDoor
end
section
namespace Go.Proofs.YtdoaoaicdimbeaaGreatDoor
open Go.Ev Go
end Go.Proofs.YtdoaoaicdimbeaaGreatDoor
end
section
namespace Go.Proofs.YtdoaoaicdimbeaaGreatDoor
open Go.Ev Go
theorem fD (k:IntKind) (z:Int):(V.int k z).getI=z:=rfl
theorem Cf (t:TypeId) (o:Bool) (l:List V):(V.lst t o l).getL=l:=rfl
theorem bS (x:Bool):(V.bool x).getB=x:=rfl
theorem cT (x:Bs):(V.str x).getS=x:=rfl
theorem eD (l:List V):(V.tup l).getT=l:=rfl
theorem fE {α β:Type} {o:Option β} {v:β} {F:Nat→Nat→β→Option α} {r:α} (h:o=some v) (h2:Evt (fun k n=>F k n v) r):Evt (fun k n=>Option.bind o (F k n)) r:=by subst h;exact h2
end Go.Proofs.YtdoaoaicdimbeaaGreatDoor
end
section
namespace Go.Proofs.YtdoaoaicdimbeaaGreatDoor
open Go.Ev Go
end Go.Proofs.YtdoaoaicdimbeaaGreatDoor
end
section
namespace Go.Proofs.YtdoaoaicdimbeaaGreatDoor
open Go.Ev Go
open List (headD tail getD length drop take)
open V (getI getL getT getS getB)
set_option maxRecDepth 100000
variable (call : FuncId → Fun) (icall : aO (V × List Ob)) (again : List It → St → Option (V × List Ob))
def T45 (call:FuncId→Fun) (a0:List UInt8):Option (V×List Ob):=
 if(decide (((length a0:Nat):Int)≤(1000:Int)))=true then
 Option.bind (call 86 [(V.str a0),(V.clo (Fn.func 87) [] [])] []) fun z0=>
 if(getB z0.1)=true then
 Option.bind (call 88 [(V.str a0)] []) fun z1=>
 some ((V.str (getS z1.1)),[])
 else
 Option.bind (call 47 [(V.int .i64 ((length a0:Nat):Int))] []) fun z1=>
 chk (cH [123] (getS z1.1)) (chk (cH ([123]++(getS z1.1)) [125,13,10]) (chk (cH (([123]++(getS z1.1))++[125,13,10]) a0) (Option.bind (call 89 [(V.str a0),(V.int .u8 0)] []) fun z2=>
 if(decide ((getI z2.1)≥(0:Int)))=true then
 chk (cH [126] ((([123]++(getS z1.1))++[125,13,10])++a0)) (some ((V.str ([126]++((([123]++(getS z1.1))++[125,13,10])++a0))),[]))
 else
 some ((V.str ((([123]++(getS z1.1))++[125,13,10])++a0)),[]))))
 else
 Option.bind (call 47 [(V.int .i64 ((length a0:Nat):Int))] []) fun z0=>
 chk (cH [123] (getS z0.1)) (chk (cH ([123]++(getS z0.1)) [125,13,10]) (chk (cH (([123]++(getS z0.1))++[125,13,10]) a0) (Option.bind (call 89 [(V.str a0),(V.int .u8 0)] []) fun z1=>
 if(decide ((getI z1.1)≥(0:Int)))=true then
 chk (cH [126] ((([123]++(getS z0.1))++[125,13,10])++a0)) (some ((V.str ([126]++((([123]++(getS z0.1))++[125,13,10])++a0))),[]))
 else
 some ((V.str ((([123]++(getS z0.1))++[125,13,10])++a0)),[]))))
def A45 (a0:List UInt8):List V:=[V.str a0]
theorem E45 (a0:List UInt8):GO 45 Tryz.f45 (A45 a0) [] call icall again=T45 call a0:=by kernel_rfl
theorem C45 (k:Nat) (a0:List UInt8):aB cfg (k+1) 45 (A45 a0) []=T45 (aB cfg k) a0:=
 (show aB cfg (k+1) 45 (A45 a0) []=GO 45 Tryz.f45 (A45 a0) [] (aB cfg k) (aN cfg (aB cfg k) 20) (RN 45 Tryz.f45 [] (aB cfg k) (aN cfg (aB cfg k) 20) k)by kernel_rfl).trans (E45 _ _ _ a0)
theorem M45 (a0:List UInt8) {r:V×List Ob} (h:Evt (fun k n=>T45 (aB cfg k) a0) r):Ret 45 [V.str a0] [] r:=bX (g:=fun k n=>T45 (aB cfg k) a0) (fun k=>C45 k a0) h
def T52 (call:FuncId→Fun) (a0:List UInt8) (a1:Bool):Option (V×List Ob):=
 if(!a1)=true then
 some ((V.str [78,73,76]),[])
 else
 Option.bind (call 45 [(V.str a0)] []) fun z0=>
 some ((V.str (getS z0.1)),[])
def A52 (a0:List UInt8) (a1:Bool):List V:=[V.str a0,V.bool a1]
theorem E52 (a0:List UInt8) (a1:Bool):GO 52 Tryz.f52 (A52 a0 a1) [] call icall again=T52 call a0 a1:=by kernel_rfl
theorem C52 (k:Nat) (a0:List UInt8) (a1:Bool):aB cfg (k+1) 52 (A52 a0 a1) []=T52 (aB cfg k) a0 a1:=
 (show aB cfg (k+1) 52 (A52 a0 a1) []=GO 52 Tryz.f52 (A52 a0 a1) [] (aB cfg k) (aN cfg (aB cfg k) 20) (RN 52 Tryz.f52 [] (aB cfg k) (aN cfg (aB cfg k) 20) k)by kernel_rfl).trans (E52 _ _ _ a0 a1)
theorem M52 (a0:List UInt8) (a1:Bool) {r:V×List Ob} (h:Evt (fun k n=>T52 (aB cfg k) a0 a1) r):Ret 52 [V.str a0,V.bool a1] [] r:=bX (g:=fun k n=>T52 (aB cfg k) a0 a1) (fun k=>C52 k a0 a1) h
def T87 (call:FuncId→Fun) (a0:Int):Option (V×List Ob):=
 Option.bind (if(decide (a0≥(32:Int)))=true then
 some (decide (a0<(127:Int)))
 else
 some false) fun y0=>
 some ((V.bool y0),[])
def A87 (a0:Int):List V:=[V.int IntKind.u8 a0]
theorem E87 (a0:Int):GO 87 Tryz.f87 (A87 a0) [] call icall again=T87 call a0:=by kernel_rfl
theorem C87 (k:Nat) (a0:Int):aB cfg (k+1) 87 (A87 a0) []=T87 (aB cfg k) a0:=
 (show aB cfg (k+1) 87 (A87 a0) []=GO 87 Tryz.f87 (A87 a0) [] (aB cfg k) (aN cfg (aB cfg k) 20) (RN 87 Tryz.f87 [] (aB cfg k) (aN cfg (aB cfg k) 20) k)by kernel_rfl).trans (E87 _ _ _ a0)
theorem M87 (a0:Int) {r:V×List Ob} (h:Evt (fun k n=>T87 (aB cfg k) a0) r):Ret 87 [V.int IntKind.u8 a0] [] r:=bX (g:=fun k n=>T87 (aB cfg k) a0) (fun k=>C87 k a0) h
def xU (call:FuncId→Fun) (ag0:List UInt8→List V→Int→Int→Option (V×List Ob)) (s0:List UInt8) (l1:List V) (i2:Int) (i3:Int):Option (V×List Ob):=
 if(decide (i3<i2))=true then
 Option.bind (chk (decide (0≤i3)) (chk (decide (i3<((length s0:Nat):Int))) (if(((UInt8.toNat (getD s0 (Int.toNat i3) 0):Nat):Int)==(34:Int))=false then
 chk (decide (0≤i3)) (chk (decide (i3<((length s0:Nat):Int))) (some (((UInt8.toNat (getD s0 (Int.toNat i3) 0):Nat):Int)==(92:Int))))
 else
 some true))) fun y0=>
 if y0=true then
 chk (cK l1 [(V.int .u8 92)] 2) (chk (decide (0≤i3)) (chk (decide (i3<((length s0:Nat):Int))) (chk (cK (l1++[(V.int .u8 92)]) [(V.int .u8 ((UInt8.toNat (getD s0 (Int.toNat i3) 0):Nat):Int))] 2) ((ag0 (s0) (((l1++[(V.int .u8 92)])++[(V.int .u8 ((UInt8.toNat (getD s0 (Int.toNat i3) 0):Nat):Int))])) (i2) ((IntKind.wrap .i64 (i3+(1:Int)))))))))
 else
 chk (decide (0≤i3)) (chk (decide (i3<((length s0:Nat):Int))) (chk (cK l1 [(V.int .u8 ((UInt8.toNat (getD s0 (Int.toNat i3) 0):Nat):Int))] 2) ((ag0 (s0) ((l1++[(V.int .u8 ((UInt8.toNat (getD s0 (Int.toNat i3) 0):Nat):Int))])) (i2) ((IntKind.wrap .i64 (i3+(1:Int))))))))
 else
 chk (cK l1 [(V.int .u8 34)] 2) (some ((V.str (bytesOf (l1++[(V.int .u8 34)]))),[]))
def T88 (call:FuncId→Fun) (ag0:List UInt8→List V→Int→Int→Option (V×List Ob)) (a0:List UInt8):Option (V×List Ob):=
 (ag0 (a0) ([(V.int .u8 34)]) (((length a0:Nat):Int)) ((0:Int)))
def A88 (a0:List UInt8):List V:=[V.str a0]
def uD (s0:List UInt8) (l1:List V) (i2:Int) (i3:Int):St:=⟨[(V.str s0),V.bot,V.bot,(V.lst 5 true l1),V.bot,V.bot,V.bot,(V.int IntKind.i64 i2),(V.int IntKind.i64 i3)]++List.replicate 26 V.bot,[]⟩
theorem Gc (s0:List UInt8) (l1:List V) (i2:Int) (i3:Int):
 RM 88 Tryz.f88 [] call icall again (bE Tryz.f88 0) (uD s0 l1 i2 i3)=xU call (fun s0 l1 i2 i3=>again (bE Tryz.f88 0) (uD s0 l1 i2 i3)) s0 l1 i2 i3:=by kernel_rfl
theorem E88 (a0:List UInt8):GO 88 Tryz.f88 (A88 a0) [] call icall again=T88 call (fun s0 l1 i2 i3=>again (bE Tryz.f88 0) (uD s0 l1 i2 i3)) a0:=by kernel_rfl
def L88 (call:FuncId→Fun):Nat→(List UInt8→List V→Int→Int→Option (V×List Ob))
 |0=>fun _ _ _ _=>none
 |n+1=>xU call (L88 call n)
theorem R88 (call:FuncId→Fun) (icall:aO (V×List Ob)):∀n,(∀(s0:List UInt8) (l1:List V) (i2:Int) (i3:Int),RN 88 Tryz.f88 [] call icall n (bE Tryz.f88 0) (uD s0 l1 i2 i3)=(L88 call n) s0 l1 i2 i3)
 |0=>fun s0 l1 i2 i3=>rfl
 |n+1=>by
  have ih:=R88 call icall n
  exact fun s0 l1 i2 i3=>(Gc call icall (RN 88 Tryz.f88 [] call icall n) s0 l1 i2 i3).trans (by rw[show(fun s0 l1 i2 i3=>RN 88 Tryz.f88 [] call icall n (bE Tryz.f88 0) (uD s0 l1 i2 i3))=(L88 call n)from(funext fun s0=>funext fun l1=>funext fun i2=>funext fun i3=>ih s0 l1 i2 i3)];rfl)
theorem C88 (k:Nat) (a0:List UInt8):aB cfg (k+1) 88 (A88 a0) []=T88 (aB cfg k) (L88 (aB cfg k) k) a0:=by
 have ih:=R88 (aB cfg k) (aN cfg (aB cfg k) 20) k
 refine(show aB cfg (k+1) 88 (A88 a0) []=GO 88 Tryz.f88 (A88 a0) [] (aB cfg k) (aN cfg (aB cfg k) 20) (RN 88 Tryz.f88 [] (aB cfg k) (aN cfg (aB cfg k) 20) k)by kernel_rfl).trans ((E88 _ _ _ a0).trans ?_)
 rw[show(fun s0 l1 i2 i3=>RN 88 Tryz.f88 [] (aB cfg k) (aN cfg (aB cfg k) 20) k (bE Tryz.f88 0) (uD s0 l1 i2 i3))=(L88 (aB cfg k) k)from(funext fun s0=>funext fun l1=>funext fun i2=>funext fun i3=>ih s0 l1 i2 i3)]
theorem M88 (a0:List UInt8) {r:V×List Ob} (h:Evt (fun k n=>T88 (aB cfg k) (L88 (aB cfg k) n) a0) r):Ret 88 [V.str a0] [] r:=bX (g:=fun k n=>T88 (aB cfg k) (L88 (aB cfg k) n) a0) (fun k=>C88 k a0) h
theorem Ee (s0:List UInt8) (l1:List V) (i2:Int) (i3:Int) {r:V×List Ob} (h:Evt (fun k n=>xU (aB cfg k) (L88 (aB cfg k) n) s0 l1 i2 i3) r):Evt (fun k n=>(L88 (aB cfg k) n) s0 l1 i2 i3) r:=fC (fun k n=>rfl) h
def xW (call:FuncId→Fun) (ag0:List UInt8→Int→Int→Option (V×List Ob)) (s0:List UInt8) (i1:Int) (i2:Int):Option (V×List Ob):=
 if(decide (i2<i1))=true then
 chk (decide (0≤i2)) (chk (decide (i2<((length s0:Nat):Int))) (Option.bind (call 87 [(V.int .u8 ((UInt8.toNat (getD s0 (Int.toNat i2) 0):Nat):Int))] []) fun z0=>
 if(!(getB z0.1))=true then
 some ((V.bool false),[])
 else
 (ag0 (s0) (i1) ((IntKind.wrap .i64 (i2+(1:Int)))))))
 else
 some ((V.bool true),[])
def T86 (call:FuncId→Fun) (ag0:List UInt8→Int→Int→Option (V×List Ob)) (a0:List UInt8):Option (V×List Ob):=
 (ag0 (a0) (((length a0:Nat):Int)) ((0:Int)))
def A86 (a0:List UInt8):List V:=[V.str a0,V.clo (Fn.func 87) [] []]
def uE (s0:List UInt8) (i1:Int) (i2:Int):St:=⟨[(V.str s0),(V.clo (Fn.func 87) [] []),V.bot,V.bot,V.bot,V.bot,V.bot,(V.int IntKind.i64 i1),(V.int IntKind.i64 i2)]++List.replicate 9 V.bot,[]⟩
theorem Gd (s0:List UInt8) (i1:Int) (i2:Int):
 RM 86 Tryz.f86 [] call icall again (bE Tryz.f86 0) (uE s0 i1 i2)=xW call (fun s0 i1 i2=>again (bE Tryz.f86 0) (uE s0 i1 i2)) s0 i1 i2:=by kernel_rfl
theorem E86 (a0:List UInt8):GO 86 Tryz.f86 (A86 a0) [] call icall again=T86 call (fun s0 i1 i2=>again (bE Tryz.f86 0) (uE s0 i1 i2)) a0:=by kernel_rfl
def L86 (call:FuncId→Fun):Nat→(List UInt8→Int→Int→Option (V×List Ob))
 |0=>fun _ _ _=>none
 |n+1=>xW call (L86 call n)
theorem R86 (call:FuncId→Fun) (icall:aO (V×List Ob)):∀n,(∀(s0:List UInt8) (i1:Int) (i2:Int),RN 86 Tryz.f86 [] call icall n (bE Tryz.f86 0) (uE s0 i1 i2)=(L86 call n) s0 i1 i2)
 |0=>fun s0 i1 i2=>rfl
 |n+1=>by
  have ih:=R86 call icall n
  exact fun s0 i1 i2=>(Gd call icall (RN 86 Tryz.f86 [] call icall n) s0 i1 i2).trans (by rw[show(fun s0 i1 i2=>RN 86 Tryz.f86 [] call icall n (bE Tryz.f86 0) (uE s0 i1 i2))=(L86 call n)from(funext fun s0=>funext fun i1=>funext fun i2=>ih s0 i1 i2)];rfl)
theorem C86 (k:Nat) (a0:List UInt8):aB cfg (k+1) 86 (A86 a0) []=T86 (aB cfg k) (L86 (aB cfg k) k) a0:=by
 have ih:=R86 (aB cfg k) (aN cfg (aB cfg k) 20) k
 refine(show aB cfg (k+1) 86 (A86 a0) []=GO 86 Tryz.f86 (A86 a0) [] (aB cfg k) (aN cfg (aB cfg k) 20) (RN 86 Tryz.f86 [] (aB cfg k) (aN cfg (aB cfg k) 20) k)by kernel_rfl).trans ((E86 _ _ _ a0).trans ?_)
 rw[show(fun s0 i1 i2=>RN 86 Tryz.f86 [] (aB cfg k) (aN cfg (aB cfg k) 20) k (bE Tryz.f86 0) (uE s0 i1 i2))=(L86 (aB cfg k) k)from(funext fun s0=>funext fun i1=>funext fun i2=>ih s0 i1 i2)]
theorem M86 (a0:List UInt8) {r:V×List Ob} (h:Evt (fun k n=>T86 (aB cfg k) (L86 (aB cfg k) n) a0) r):Ret 86 [V.str a0,V.clo (Fn.func 87) [] []] [] r:=bX (g:=fun k n=>T86 (aB cfg k) (L86 (aB cfg k) n) a0) (fun k=>C86 k a0) h
theorem Ef (s0:List UInt8) (i1:Int) (i2:Int) {r:V×List Ob} (h:Evt (fun k n=>xW (aB cfg k) (L86 (aB cfg k) n) s0 i1 i2) r):Evt (fun k n=>(L86 (aB cfg k) n) s0 i1 i2) r:=fC (fun k n=>rfl) h
end Go.Proofs.YtdoaoaicdimbeaaGreatDoor
end
section
namespace Go.Proofs.YtdoaoaicdimbeaaGreatDoor
open Go.Ev Go
def pS (c:UInt8):Bs:=if c=34∨c=92 then[92,c]else[c]
def dY (s:Bs):Bs:=[34]++s.flatMap pS++[34]
theorem ES (s:Bs) (hs:s.length≤1000000):∀(n i:Nat) (out:Bs),s.length - i≤n→out.length≤2*i+1→i≤s.length→
  Evt (fun k n=>L88 (aB cfg k) n s (ofBytes out) (s.length:Nat) (i:Nat)) (.str (out++(s.drop i).flatMap pS++[34]),[]):=by
 have fin:∀(i:Nat) (out:Bs),s.length≤i→out.length≤2*i+1→i≤s.length→Evt (fun k n=>L88 (aB cfg k) n s (ofBytes out) (s.length:Nat) (i:Nat)) (.str (out++(s.drop i).flatMap pS++[34]),[]):=by
  intro i out h ho hi
  refine Ee s (ofBytes out) (s.length:Nat) (i:Nat) ?_
  have h1:¬((i:Int)<(s.length:Int)):=by omega
  have hap:cK (ofBytes out) [V.int IntKind.u8 34] 2=true:=lV (by simp[dD];omega)
  have h34:ofBytes out++[V.int IntKind.u8 34]=ofBytes (out++[34]):=dX out 34
  rw[List.drop_eq_nil_of_le h]
  simp only[xU,h1,decide_false,Bool.false_eq_true,if_false,eQ hap,h34,eG,List.flatMap_nil,List.append_nil]
  exact aM _
 intro n
 induction n with
 |zero=>intro i out h ho hi;exact fin i out (by omega) ho hi
 |succ n ih=>
  intro i out h ho hi
  by_cases hlt:i<s.length
  ·refine Ee s (ofBytes out) (s.length:Nat) (i:Nat) ?_
   have h1:((i:Int)<(s.length:Int)):=by omega
   have h2:(0:Int)≤(i:Int):=by omega
   have hw:IntKind.wrap .i64 ((i:Int)+1)=((i+1:Nat):Int):=by rw[wrap64 (by omega) (by omega)];omega
   have e34:(((s[i].toNat:Nat):Int)==(34:Int))=(s[i]==34):=jR s[i] 34 (by omega)
   have e92:(((s[i].toNat:Nat):Int)==(92:Int))=(s[i]==92):=jR s[i] 92 (by omega)
   have hap:∀c:Int,cK (ofBytes out) [V.int IntKind.u8 c] 2=true:=fun c=>lV (by simp[dD];omega)
   have hap2:∀c:Int,cK (ofBytes (out++[92])) [V.int IntKind.u8 c] 2=true:=fun c=>lV (by simp[dD];omega)
   have h92:ofBytes out++[V.int IntKind.u8 92]=ofBytes (out++[92]):=dX out 92
   have hor:(chk (decide ((0:Int)≤(i:Int))) (chk (decide ((i:Int)<(s.length:Int))) (if(s[i]==34)=false then
     chk (decide ((0:Int)≤(i:Int))) (chk (decide ((i:Int)<(s.length:Int))) (some (s[i]==92)))else some true)))=some (decide (s[i]=34∨s[i]=92)):=by
    simp only[aW h2,aW h1]
    by_cases a:s[i]=34
    ·simp[a]
    ·have b:(s[i]==34)=false:=by simpa using a
     simp only[b,if_true,a,false_or]
     by_cases c:s[i]=92<;>simp[c]
   simp only[xU,h1,decide_true,if_true,Int.toNat_natCast,getD_at hlt,e34,e92,hw]
   have hor' :=hor
   simp only[h1,decide_true]at hor'
   rw[hor']
   simp only[vM,drop_at hlt,List.flatMap_cons]
   by_cases hc:s[i]=34∨s[i]=92
   ·simp only[hc,decide_true,if_true,eQ (hap _),aW h2,lU,h92,eQ (hap2 _),dX]
    have:=ih (i+1) ((out++[92])++[s[i]]) (by omega) (by simp;omega) (by omega)
    simpa[pS,hc]using this
   ·simp only[hc,decide_false,Bool.false_eq_true,if_false,eQ (hap _),aW h2,lU,dX]
    have:=ih (i+1) (out++[s[i]]) (by omega) (by simp;omega) (by omega)
    simpa[pS,hc]using this
  ·exact fin i out (by omega) ho hi
theorem Ge (s:Bs) (hs:s.length≤1000000):Ret 88 [.str s] [] (.str (dY s),[]):=by
 refine M88 s ?_
 simp only[T88]
 have h34:[V.int IntKind.u8 (34:Int)]=ofBytes [34]:=rfl
 rw[h34]
 exact ES s hs s.length 0 [34] (by omega) (by simp) (by omega)
end Go.Proofs.YtdoaoaicdimbeaaGreatDoor
end
section
namespace Go.Proofs.YtdoaoaicdimbeaaGreatDoor
open Go.Ev Go
open List (headD tail getD length drop take)
open V (getI getL getT getS getB)
set_option maxRecDepth 100000
variable (call : FuncId → Fun) (icall : aO (V × List Ob)) (again : List It → St → Option (V × List Ob))
end Go.Proofs.YtdoaoaicdimbeaaGreatDoor
end
section
namespace Go.Proofs.YtdoaoaicdimbeaaGreatDoor
open Go.Ev Go
def zS (c:UInt8):Bool:=decide (32≤(c.toNat:Int))&&decide ((c.toNat:Int)<127)
theorem Gf (c:UInt8):Ret 87 [.int .u8 (c.toNat:Nat)] [] (.bool (zS c),[]):=by
 refine M87 (c.toNat:Nat) ?_
 simp only[T87]
 unfold zS
 by_cases h:(32:Int)≤(c.toNat:Int)
 ·have h' :((c.toNat:Nat):Int)≥32:=h
  simp only[h',h,decide_true,if_true,Bool.true_and,vM]
  exact aM _
 ·have h' :¬(((c.toNat:Nat):Int)≥32):=h
  simp only[h',h,decide_false,Bool.false_eq_true,if_false,Bool.false_and,vM]
  exact aM _
theorem Cg (s:Bs) (hs:s.length≤1000000):∀(n i:Nat),s.length - i=n→i≤s.length→
  Evt (fun k j=>L86 (aB cfg k) j s (s.length:Nat) (i:Nat)) (.bool ((s.drop i).all zS),[])
 |0,i,h,hi=>by
  refine Ef s (s.length:Nat) (i:Nat) ?_
  have h1:¬((i:Int)<(s.length:Int)):=by omega
  rw[List.drop_eq_nil_of_le (by omega)]
  simp only[xW,h1,decide_false,Bool.false_eq_true,if_false,List.all_nil]
  exact aM _
 |n+1,i,h,hi=>by
  have hlt:i<s.length:=by omega
  refine Ef s (s.length:Nat) (i:Nat) ?_
  have h1:((i:Int)<(s.length:Int)):=by omega
  have h2:(0:Int)≤(i:Nat):=by omega
  have hw:IntKind.wrap .i64 (((i:Nat):Int)+1)=((i+1:Nat):Int):=by rw[wrap64 (by omega) (by omega)];omega
  simp only[xW,h1,decide_true,if_true,aW h2,lU,Int.toNat_natCast,getD_at hlt,hw]
  refine aL (Gf s[i]) ?_
  rw[drop_at hlt,List.all_cons]
  cases hp:zS s[i]with
  |false=>
   simp only[bS,Bool.not_false,if_true,Bool.false_and]
   exact aM _
  |true=>
   simp only[bS,Bool.not_true,Bool.false_eq_true,if_false,Bool.true_and]
   exact Cg s hs n (i+1) (by omega) (by omega)
theorem Gg (s:Bs) (hs:s.length≤1000000):Ret 86 [.str s, .clo (.func 87) [] []] [] (.bool (s.all zS),[]):=by
 refine M86 s ?_
 simp only[T86]
 exact Cg s hs s.length 0 (by omega) (by omega)
def jT (s:Bs):Bs:=(([123]++bT s.length)++[125,13,10])++s
def vN (s:Bs):Bs:=if s.length≤1000∧s.all zS=true then dY s else if Lib.indexByte s 0= -1 then jT s else[126]++jT s
theorem Au (s:Bs):(jT s).length≤2*s.length+5:=by
 have:=qJ s.length
 simp only[jT,List.length_append,List.length_cons,List.length_nil];omega
theorem zT (s:Bs):(dY s).length≤2*s.length+2:=by
 have:∀s:Bs,(s.flatMap pS).length≤2*s.length:=by
  intro s
  induction s with
  |nil=>simp
  |cons c r ih=>
   rw[List.flatMap_cons,List.length_append,List.length_cons]
   have:(pS c).length≤2:=by unfold pS;split<;>simp
   omega
 have:=this s
 simp only[dY,List.length_append,List.length_cons,List.length_nil];omega
theorem vO (s:Bs):(vN s).length≤2*s.length+6:=by
 have h1:=Au s
 have h2:=zT s
 unfold vN
 split
 ·omega
 ·split
  ·omega
  ·simp only[List.length_append,List.length_cons,List.length_nil];omega
theorem Ch (s:Bs) (hs:s.length≤1000000000):Ret 45 [.str s] [] (.str (vN s),[]):=by
 have lit:Evt (fun(k _:Nat)=>Option.bind (aB cfg k 47 [.int .i64 ((s.length:Nat):Int)] []) fun z0=>
   chk (cH [123] (V.getS z0.1)) (chk (cH ([123]++(V.getS z0.1)) [125,13,10]) (chk (cH (([123]++(V.getS z0.1))++[125,13,10]) s) (Option.bind (aB cfg k 89 [.str s, .int .u8 (0:Int)] []) fun z1=>
   if(decide ((V.getI z1.1)≥(0:Int)))=true then
    chk (cH [126] ((([123]++(V.getS z0.1))++[125,13,10])++s)) (some ((V.str ([126]++((([123]++(V.getS z0.1))++[125,13,10])++s))),([]:List Ob)))
   else
    some ((V.str ((([123]++(V.getS z0.1))++[125,13,10])++s)),[])))))
   (.str (if Lib.indexByte s 0= -1 then jT s else[126]++jT s),[]):=by
  have hd:=qJ s.length
  have hl:=Au s
  refine aL (F8 s.length (by omega)) ?_
  have c1:cH [123] (bT s.length)=true:=kO (by simp;omega)
  have c2:cH ([123]++bT s.length) [125,13,10]=true:=kO (by simp;omega)
  have c3:cH (([123]++bT s.length)++[125,13,10]) s=true:=kO (by simp;omega)
  have hix:Ret 89 [.str s, .int .u8 (0:Int)] [] (.int .i64 (Lib.indexByte s 0),[]):=lT (h:=zP) (by kernel_rfl) (by simp[zP])
  simp only[cT,eQ c1,eQ c2,eQ c3]
  refine aL hix ?_
  have hge:=Lib.indexByte_ge s 0
  show Evt (fun(k _:Nat)=>if(decide ((V.getI (.int .i64 (Lib.indexByte s 0)))≥(0:Int)))=true then chk (cH [126] (jT s)) (some ((V.str ([126]++jT s)),([]:List Ob)))else some ((V.str (jT s)),[])) _
  by_cases h:Lib.indexByte s 0= -1
  ·have h' :¬(Lib.indexByte s 0≥0):=by omega
   rw[if_pos h]
   simp only[fD,h',decide_false,Bool.false_eq_true,if_false]
   exact aM _
  ·have h' :Lib.indexByte s 0≥0:=by omega
   have c4:cH [126] (jT s)=true:=kO (by simp;omega)
   rw[if_neg h]
   simp only[fD,h',decide_true,if_true,eQ c4]
   exact aM _
 refine M45 s ?_
 simp only[T45]
 unfold vN
 by_cases h:s.length≤1000
 ·have h1:((s.length:Nat):Int)≤1000:=by omega
  simp only[h1,decide_true,if_true]
  refine aL (Gg s (by omega)) ?_
  cases ha:s.all zS with
  |true=>
   rw[if_pos ⟨h,rfl⟩]
   simp only[bS,if_true]
   refine aL (Ge s (by omega)) ?_
   exact aM _
  |false=>
   rw[if_neg (fun e=>by cases e.2)]
   simp only[bS,Bool.false_eq_true,if_false]
   exact lit
 ·have h1:¬(((s.length:Nat):Int)≤1000):=by omega
  rw[if_neg (fun e=>h e.1)]
  simp only[h1,decide_false,Bool.false_eq_true,if_false]
  exact lit
def oK:Bs:=[78,73,76]
def nB (s:Bs) (is:Bool):Bs:=if is then vN s else oK
theorem xX (s:Bs) (hs:s.length≤1000000000) (is:Bool):Ret 52 [.str s, .bool is] [] (.str (nB s is),[]):=by
 refine M52 s is ?_
 simp only[T52]
 cases is with
 |false=>simp only[Bool.not_false,if_true];exact aM _
 |true=>
  simp only[Bool.not_true,Bool.false_eq_true,if_false]
  refine aL (Ch s hs) ?_
  exact aM _
theorem fF (s:Bs) (is:Bool):(nB s is).length≤2*s.length+6:=by
 have:=vO s
 unfold nB
 split
 ·exact this
 ·simp[oK]
def zU (l:List Bs):Bs:=([40]++Lib.join l [32])++[41]
theorem Av (m:Nat):∀l:List Bs,(∀x∈l,x.length≤m)→Lib.lens l≤l.length*m
 |[],_=>by simp[Lib.lens]
 |x::r,h=>by
  have h1:=h x (by simp)
  have h2:=Av m r fun y hy=>h y (by simp[hy])
  simp only[Lib.lens,List.map_cons,List.sum_cons,List.length_cons,Nat.add_mul,Nat.one_mul]at h2 ⊢
  omega
theorem qT (m:Nat) (l:List Bs) (h:∀x∈l,x.length≤m):(Lib.join l [32]).length≤l.length* (m+1):=by
 cases l with
 |nil=>simp[Lib.join]
 |cons x r=>
  have:=Av m (x::r) h
  rw[Lib.join_length]
  simp only[List.length_cons,List.length_nil,Nat.mul_add,Nat.mul_one,Nat.zero_add,Nat.one_mul]at this ⊢
  omega
end Go.Proofs.YtdoaoaicdimbeaaGreatDoor
end
section
namespace Go.Proofs.YtdoaoaicdimbeaaGreatDoor
open Go.Ev Go
def Pt.kd:Pt→Nat| .mk k _ _ _ _ _=>k
def Pt.hd:Pt→Nat×Nat| .mk _ h _ _ _ _=>h
def Pt.ks:Pt→List Pt| .mk _ _ _ l _ _=>l
def Pt.cs:Pt→List (Nat×Nat)| .mk _ _ _ _ c _=>c
def Pt.en:Pt→Nat×Nat| .mk _ _ _ _ _ e=>e
end Go.Proofs.YtdoaoaicdimbeaaGreatDoor
end
section
namespace Go.Proofs.YtdoaoaicdimbeaaGreatDoor
open Go.Ev Go
theorem Gi {x y:Bs} (h:x=y):sEq x y=true:=by subst h;simp[sEq]
theorem uF {x y:Bs} (h:¬x=y):sEq x y=false:=by simp[sEq,h]
end Go.Proofs.YtdoaoaicdimbeaaGreatDoor
end
section
namespace Go.Proofs.YtdoaoaicdimbeaaGreatDoor
open Go.Ev Go
open List (headD tail getD length drop take)
open V (getI getL getT getS getB)
set_option maxRecDepth 100000
variable (call : FuncId → Fun) (icall : aO (V × List Ob)) (again : List It → St → Option (V × List Ob))
end Go.Proofs.YtdoaoaicdimbeaaGreatDoor
end
section
namespace Go.Proofs.YtdoaoaicdimbeaaGreatDoor
open Go.Ev Go
theorem Dc (s:Bs) (c:UInt8):Ret 89 [.str s, .int .u8 (c.toNat:Nat)] [] (.int .i64 (Lib.indexByte s c),[]):=
 lT (h:=zP) (by kernel_rfl) (by
  have:=c.toNat_lt
  have h:UInt8.ofNat c.toNat=c:=by simp
  simp only[zP,Int.toNat_natCast,h]
  rw[if_pos ⟨by omega,by omega⟩])
inductive Pc|w (s:Bs)|g (c:UInt8)
end Go.Proofs.YtdoaoaicdimbeaaGreatDoor
end
section
namespace Go.Proofs.YtdoaoaicdimbeaaGreatDoor
open Go.Ev Go
abbrev Ad:=Int×Bs×Bs×Bs
def adV (a:Ad):V:= .agg [.int .i64 a.1, .str a.2.1, .str a.2.2.1, .str a.2.2.2]
def aw1 (a:Ad):Nat:=a.2.1.length+a.2.2.1.length+a.2.2.2.length+1
def ow (o:List Ad):Nat:=(o.map aw1).sum
theorem zV:∀l:List Ad,l.length≤ow l
 |[]=>by simp
 |p::r=>by
  have:=zV r
  have e:ow (p::r)=aw1 p+ow r:=by simp[ow]
  have:1≤aw1 p:=by simp[aw1]
  rw[e,List.length_cons];omega
theorem Ba (ws:List Bs) (s:Bs) (h1:ws.length≤100000000) (h2:(Lib.join ws s).length≤100000000000000):Ret 85 [.lst 9 false (ws.map V.str), .str s] [] (.str (Lib.join ws s),[]):=by
 have hm:(ws.map V.str).map V.getS=ws:=by rw[List.map_map];exact(List.map_congr_left fun x _=>rfl).trans (List.map_id ws)
 refine lT (h:=sK) (by kernel_rfl) ?_
 simp only[sK,hm,List.length_map]
 rw[if_pos ⟨by omega,by omega⟩]
end Go.Proofs.YtdoaoaicdimbeaaGreatDoor
end
section
namespace Go.Proofs.YtdoaoaicdimbeaaGreatDoor
open Go.Ev Go
theorem Dd {f:FuncId} {args:List V} {objs:List Ob} {r:V×List Ob} (K:Nat) (h:∀m,aB cfg (m+K) f args objs=some r):Ret f args objs r:=
 ⟨K,fun k hk=>by obtain⟨m,rfl⟩:∃m,k=m+K:=⟨k - K,by omega⟩;exact h m⟩
set_option maxRecDepth 100000 in
theorem Gj:Ret 11 [] [] (.bool true,[]):=Dd 200 fun m=>by kernel_rfl
end Go.Proofs.YtdoaoaicdimbeaaGreatDoor
end
section
namespace Go.Proofs.YtdoaoaicdimbeaaGreatDoor
open Go.Ev Go
def rdS (z:V×List Ob):V:= .str (V.getS z.1)
end Go.Proofs.YtdoaoaicdimbeaaGreatDoor
end
section
namespace Go.Proofs.YtdoaoaicdimbeaaGreatDoor
open Go.Ev Go
open List (headD tail getD length drop take)
open V (getI getL getT getS getB)
set_option maxRecDepth 100000
variable (call : FuncId → Fun) (icall : aO (V × List Ob)) (again : List It → St → Option (V × List Ob))
def T55 (call:FuncId→Fun) (a0:List UInt8):Option (V×List Ob):=
 Option.bind (call 52 [(V.str a0),(V.bool (!(sEq a0 [])))] []) fun z0=>
 some ((V.str (getS z0.1)),[])
def A55 (a0:List UInt8):List V:=[V.str a0]
theorem E55 (a0:List UInt8):GO 55 Tryz.f55 (A55 a0) [] call icall again=T55 call a0:=by kernel_rfl
theorem C55 (k:Nat) (a0:List UInt8):aB cfg (k+1) 55 (A55 a0) []=T55 (aB cfg k) a0:=
 (show aB cfg (k+1) 55 (A55 a0) []=GO 55 Tryz.f55 (A55 a0) [] (aB cfg k) (aN cfg (aB cfg k) 20) (RN 55 Tryz.f55 [] (aB cfg k) (aN cfg (aB cfg k) 20) k)by kernel_rfl).trans (E55 _ _ _ a0)
theorem M55 (a0:List UInt8) {r:V×List Ob} (h:Evt (fun k n=>T55 (aB cfg k) a0) r):Ret 55 [V.str a0] [] r:=bX (g:=fun k n=>T55 (aB cfg k) a0) (fun k=>C55 k a0) h
def T53 (call:FuncId→Fun) (a0:List V):Option (V×List Ob):=
 Option.bind (call 85 [(V.lst 9 false a0),(V.str [32])] []) fun z0=>
 chk (cH [40] (getS z0.1)) (chk (cH ([40]++(getS z0.1)) [41]) (some ((V.str (([40]++(getS z0.1))++[41])),[])))
def A53 (a0:List V):List V:=[V.lst 9 false a0]
theorem E53 (a0:List V):GO 53 Tryz.f53 (A53 a0) [] call icall again=T53 call a0:=by kernel_rfl
theorem C53 (k:Nat) (a0:List V):aB cfg (k+1) 53 (A53 a0) []=T53 (aB cfg k) a0:=
 (show aB cfg (k+1) 53 (A53 a0) []=GO 53 Tryz.f53 (A53 a0) [] (aB cfg k) (aN cfg (aB cfg k) 20) (RN 53 Tryz.f53 [] (aB cfg k) (aN cfg (aB cfg k) 20) k)by kernel_rfl).trans (E53 _ _ _ a0)
theorem M53 (a0:List V) {r:V×List Ob} (h:Evt (fun k n=>T53 (aB cfg k) a0) r):Ret 53 [V.lst 9 false a0] [] r:=bX (g:=fun k n=>T53 (aB cfg k) a0) (fun k=>C53 k a0) h
def T28 (call:FuncId→Fun) (a0:Int) (a1:List UInt8) (a2:List UInt8) (a3:List UInt8):Option (V×List Ob):=
 if(a0==(0:Int))=true then
 Option.bind (call 55 [(V.str a1)] []) fun z0=>
 Option.bind (call 45 [(V.str a2)] []) fun z1=>
 Option.bind (call 55 [(V.str a3)] []) fun z2=>
 Option.bind (call 53 [(V.lst 9 false [(V.str (getS z0.1)),(V.str [78,73,76]),(V.str (getS z1.1)),(V.str (getS z2.1))])] []) fun z3=>
 some ((V.str (getS z3.1)),[])
 else
 if(a0==(1:Int))=true then
 Option.bind (call 45 [(V.str a1)] []) fun z0=>
 Option.bind (call 53 [(V.lst 9 false [(V.str [78,73,76]),(V.str [78,73,76]),(V.str (getS z0.1)),(V.str [78,73,76])])] []) fun z1=>
 some ((V.str (getS z1.1)),[])
 else
 Option.bind (call 53 [(V.lst 9 false [(V.str [78,73,76]),(V.str [78,73,76]),(V.str [78,73,76]),(V.str [78,73,76])])] []) fun z0=>
 some ((V.str (getS z0.1)),[])
def A28 (a0:Int) (a1:List UInt8) (a2:List UInt8) (a3:List UInt8):List V:=[V.agg [V.int IntKind.i64 a0,V.str a1,V.str a2,V.str a3]]
theorem E28 (a0:Int) (a1:List UInt8) (a2:List UInt8) (a3:List UInt8):GO 28 Tryz.f28 (A28 a0 a1 a2 a3) [] call icall again=T28 call a0 a1 a2 a3:=by kernel_rfl
theorem C28 (k:Nat) (a0:Int) (a1:List UInt8) (a2:List UInt8) (a3:List UInt8):aB cfg (k+1) 28 (A28 a0 a1 a2 a3) []=T28 (aB cfg k) a0 a1 a2 a3:=
 (show aB cfg (k+1) 28 (A28 a0 a1 a2 a3) []=GO 28 Tryz.f28 (A28 a0 a1 a2 a3) [] (aB cfg k) (aN cfg (aB cfg k) 20) (RN 28 Tryz.f28 [] (aB cfg k) (aN cfg (aB cfg k) 20) k)by kernel_rfl).trans (E28 _ _ _ a0 a1 a2 a3)
theorem M28 (a0:Int) (a1:List UInt8) (a2:List UInt8) (a3:List UInt8) {r:V×List Ob} (h:Evt (fun k n=>T28 (aB cfg k) a0 a1 a2 a3) r):Ret 28 [V.agg [V.int IntKind.i64 a0,V.str a1,V.str a2,V.str a3]] [] r:=bX (g:=fun k n=>T28 (aB cfg k) a0 a1 a2 a3) (fun k=>C28 k a0 a1 a2 a3) h
def xY (call:FuncId→Fun) (ag0:List V→Int→Int→List V→Option (V×List Ob)) (l0:List V) (i1:Int) (i2:Int) (l3:List V):Option (V×List Ob):=
 if(decide (i2<i1))=true then
 chk (decide (0≤i2)) (chk (decide (i2<((length l0:Nat):Int))) (Option.bind (call 28 [(V.agg [(V.int .i64 (getI (headD (V.cells (getD l0 (Int.toNat i2) V.bot)) V.bot))),(V.str (getS (headD (tail (V.cells (getD l0 (Int.toNat i2) V.bot))) V.bot))),(V.str (getS (headD (tail (tail (V.cells (getD l0 (Int.toNat i2) V.bot)))) V.bot))),(V.str (getS (headD (tail (tail (tail (V.cells (getD l0 (Int.toNat i2) V.bot))))) V.bot)))])] []) fun z0=>
 Option.bind (call 27 [(V.ref 0 0),(V.str (getS z0.1))] [(Ob.cells [(V.opt 0 0),(V.lst 5 true l3)])]) fun z1=>
 (ag0 (l0) (i1) ((IntKind.wrap .i64 (i2+(1:Int)))) ((getL (headD (tail (Ob.getC (headD z1.2 Ob.dead))) V.bot))))))
 else
 Option.bind (call 29 [(V.ref 0 0)] [(Ob.cells [(V.opt 0 0),(V.lst 5 true l3)])]) fun z0=>
 chk (cH [40] (getS z0.1)) (chk (cH ([40]++(getS z0.1)) [41]) (some ((V.str (([40]++(getS z0.1))++[41])),[])))
def T12 (call:FuncId→Fun) (ag0:List V→Int→Int→List V→Option (V×List Ob)) (a0:List V):Option (V×List Ob):=
 if(((length a0:Nat):Int)==(0:Int))=true then
 some ((V.str [78,73,76]),[])
 else
 (ag0 (a0) (((length a0:Nat):Int)) ((0:Int)) ([]))
def A12 (a0:List V):List V:=[V.lst 26 false a0]
def uG (l0:List V) (i1:Int) (i2:Int) (l3:List V):St:=⟨[V.bot,V.bot,V.bot,(V.ref 0 0),V.bot,V.bot,V.bot,V.bot,V.bot,(V.lst 26 false l0),(V.int IntKind.i64 i1),(V.int IntKind.i64 i2)]++List.replicate 10 V.bot,[(Ob.cells [(V.opt 0 0),(V.lst 5 true l3)])]⟩
theorem Gk (l0:List V) (i1:Int) (i2:Int) (l3:List V):
 RM 12 Tryz.f12 [] call icall again (bE Tryz.f12 0) (uG l0 i1 i2 l3)=xY call (fun l0 i1 i2 l3=>again (bE Tryz.f12 0) (uG l0 i1 i2 l3)) l0 i1 i2 l3:=by kernel_rfl
theorem E12 (a0:List V):GO 12 Tryz.f12 (A12 a0) [] call icall again=T12 call (fun l0 i1 i2 l3=>again (bE Tryz.f12 0) (uG l0 i1 i2 l3)) a0:=by kernel_rfl
def L12 (call:FuncId→Fun):Nat→(List V→Int→Int→List V→Option (V×List Ob))
 |0=>fun _ _ _ _=>none
 |n+1=>xY call (L12 call n)
theorem R12 (call:FuncId→Fun) (icall:aO (V×List Ob)):∀n,(∀(l0:List V) (i1:Int) (i2:Int) (l3:List V),RN 12 Tryz.f12 [] call icall n (bE Tryz.f12 0) (uG l0 i1 i2 l3)=(L12 call n) l0 i1 i2 l3)
 |0=>fun l0 i1 i2 l3=>rfl
 |n+1=>by
  have ih:=R12 call icall n
  exact fun l0 i1 i2 l3=>(Gk call icall (RN 12 Tryz.f12 [] call icall n) l0 i1 i2 l3).trans (by rw[show(fun l0 i1 i2 l3=>RN 12 Tryz.f12 [] call icall n (bE Tryz.f12 0) (uG l0 i1 i2 l3))=(L12 call n)from(funext fun l0=>funext fun i1=>funext fun i2=>funext fun l3=>ih l0 i1 i2 l3)];rfl)
theorem C12 (k:Nat) (a0:List V):aB cfg (k+1) 12 (A12 a0) []=T12 (aB cfg k) (L12 (aB cfg k) k) a0:=by
 have ih:=R12 (aB cfg k) (aN cfg (aB cfg k) 20) k
 refine(show aB cfg (k+1) 12 (A12 a0) []=GO 12 Tryz.f12 (A12 a0) [] (aB cfg k) (aN cfg (aB cfg k) 20) (RN 12 Tryz.f12 [] (aB cfg k) (aN cfg (aB cfg k) 20) k)by kernel_rfl).trans ((E12 _ _ _ a0).trans ?_)
 rw[show(fun l0 i1 i2 l3=>RN 12 Tryz.f12 [] (aB cfg k) (aN cfg (aB cfg k) 20) k (bE Tryz.f12 0) (uG l0 i1 i2 l3))=(L12 (aB cfg k) k)from(funext fun l0=>funext fun i1=>funext fun i2=>funext fun l3=>ih l0 i1 i2 l3)]
theorem M12 (a0:List V) {r:V×List Ob} (h:Evt (fun k n=>T12 (aB cfg k) (L12 (aB cfg k) n) a0) r):Ret 12 [V.lst 26 false a0] [] r:=bX (g:=fun k n=>T12 (aB cfg k) (L12 (aB cfg k) n) a0) (fun k=>C12 k a0) h
theorem Eg (l0:List V) (i1:Int) (i2:Int) (l3:List V) {r:V×List Ob} (h:Evt (fun k n=>xY (aB cfg k) (L12 (aB cfg k) n) l0 i1 i2 l3) r):Evt (fun k n=>(L12 (aB cfg k) n) l0 i1 i2 l3) r:=fC (fun k n=>rfl) h
end Go.Proofs.YtdoaoaicdimbeaaGreatDoor
end
section
namespace Go.Proofs.YtdoaoaicdimbeaaGreatDoor
open Go.Ev Go
def sM (s:Bs):Bs:=nB s (!(sEq s []))
theorem Eh (s:Bs) (hs:s.length≤1000000000):Ret 55 [.str s] [] (.str (sM s),[]):=by
 refine M55 s ?_
 simp only[T55]
 refine aL (xX s hs _) ?_
 exact aM _
theorem De (m:Nat) (l:List Bs) (h:∀x∈l,x.length≤m):(zU l).length≤l.length* (m+1)+2:=by
 have:=qT m l h
 simp only[zU,List.length_append,List.length_cons,List.length_nil];omega
theorem Ei (l:List Bs) (hl:l.length≤10000000) (hj:(Lib.join l [32]).length≤100000000000000):Ret 53 [.lst 9 false (l.map V.str)] [] (.str (zU l),[]):=by
 refine M53 (l.map V.str) ?_
 simp only[T53]
 refine aL (Ba l [32] (by omega) hj) ?_
 have c1:cH [40] (Lib.join l [32])=true:=kO (by simp;omega)
 have c2:cH ([40]++Lib.join l [32]) [41]=true:=kO (by simp;omega)
 simp only[cT,eQ c1,eQ c2]
 exact aM _
def sN (a:Ad):List Bs:=if a.1=0 then[sM a.2.1,oK,vN a.2.2.1,sM a.2.2.2]else if a.1=1 then[oK,oK,vN a.2.1,oK]else[oK,oK,oK,oK]
def qQ (a:Ad):Bs:=zU (sN a)
theorem uH (s:Bs):(sM s).length≤2*s.length+6:=fF s _
theorem Aw (a:Ad):∀x∈sN a,x.length≤2*aw1 a+4:=by
 intro x hx
 have h1:=uH a.2.1
 have h2:=vO a.2.2.1
 have h3:=uH a.2.2.2
 have h4:=vO a.2.1
 have h5:oK.length=3:=rfl
 unfold sN at hx
 unfold aw1
 split at hx
 ·simp only[List.mem_cons,List.not_mem_nil,or_false]at hx
  rcases hx with rfl|rfl|rfl|rfl<;>omega
 ·split at hx
  ·simp only[List.mem_cons,List.not_mem_nil,or_false]at hx
   rcases hx with rfl|rfl|rfl|rfl<;>omega
  ·simp only[List.mem_cons,List.not_mem_nil,or_false]at hx
   rcases hx with rfl|rfl|rfl|rfl<;>omega
theorem oL (a:Ad):(sN a).length=4:=by unfold sN;split;rfl;split<;>rfl
theorem Df (a:Ad):(qQ a).length≤8*aw1 a+22:=by
 have:=De _ _ (Aw a)
 rw[oL]at this
 unfold qQ
 omega
theorem Gl (a:Ad) (ha:aw1 a≤1000000000):Ret 28 [adV a] [] (.str (qQ a),[]):=by
 have hrow:Ret 53 [.lst 9 false ((sN a).map V.str)] [] (.str (qQ a),[]):=by
  refine Ei (sN a) (by rw[oL];omega) ?_
  have:=qT _ _ (Aw a)
  rw[oL]at this
  omega
 obtain⟨k,n,l,h⟩:=a
 have hs:n.length≤1000000000∧l.length≤1000000000∧h.length≤1000000000:=by simp only[aw1]at ha;omega
 refine M28 k n l h ?_
 simp only[T28]
 unfold sN at hrow
 dsimp only at hrow
 by_cases h0:k=0
 ·subst h0
  have z:((0:Int)==(0:Int))=true:=rfl
  rw[if_pos rfl]at hrow
  simp only[z,if_true]
  refine aL (Eh n (by omega)) ?_
  refine aL (Ch l (by omega)) ?_
  refine aL (Eh h (by omega)) ?_
  simp only[cT]
  refine aL hrow ?_
  exact aM _
 ·have z:(k==(0:Int))=false:=by simpa using h0
  rw[if_neg h0]at hrow
  simp only[z,Bool.false_eq_true,if_false]
  by_cases h1:k=1
  ·subst h1
   have z:((1:Int)==(1:Int))=true:=rfl
   rw[if_pos rfl]at hrow
   simp only[z,if_true]
   refine aL (Ch n (by omega)) ?_
   simp only[cT]
   refine aL hrow ?_
   exact aM _
  ·have z:(k==(1:Int))=false:=by simpa using h1
   rw[if_neg h1]at hrow
   simp only[z,Bool.false_eq_true,if_false]
   refine aL hrow ?_
   exact aM _
def eR (o:List Ad):Bs:=o.flatMap qQ
def pT (o:List Ad):Bs:=if o=[]then oK else([40]++eR o)++[41]
theorem oM:∀o:List Ad,(eR o).length≤30*ow o
 |[]=>by simp[eR,ow]
 |a::r=>by
  have h1:=oM r
  have h2:=Df a
  have h3:1≤aw1 a:=by simp[aw1]
  have h4:ow (a::r)=aw1 a+ow r:=by simp[ow]
  have h5:eR (a::r)=qQ a++eR r:=by simp[eR]
  rw[h4,h5,List.length_append];omega
theorem eH (o:List Ad):(pT o).length≤30*ow o+3:=by
 have:=oM o
 unfold pT
 split
 ·simp[oK]
 ·simp only[List.length_append,List.length_cons,List.length_nil];omega
theorem Ci {o:List Ad} {i:Nat} (h:i<o.length):aw1 o[i]≤ow o:=by
 induction o generalizing i with
 |nil=>simp at h
 |cons a r ih=>
  have e:ow (a::r)=aw1 a+ow r:=by simp[ow]
  rw[e]
  cases i with
  |zero=>simp
  |succ j=>
   have:=ih (i:=j) (by simpa using h)
   simp only[List.getElem_cons_succ];omega
theorem Dg {o:List Ad} {i:Nat} (h:i<o.length):List.getD (o.map adV) i V.bot=adV o[i]:=by simp[List.getD,h]
theorem Cj (a:Ad):V.cells (adV a)=[.int .i64 a.1, .str a.2.1, .str a.2.2.1, .str a.2.2.2]:=rfl
theorem Dh (a:Ad):V.agg [.int .i64 a.1, .str a.2.1, .str a.2.2.1, .str a.2.2.2]=adV a:=rfl
theorem Di (o:Bs) (h:o.length≤1000000000000000000):Ret 29 [.ref 0 0] [.cells [.opt 0 0, .lst 5 true (ofBytes o)]] (.str o,[.cells [.opt 0 0, .lst 5 false (ofBytes o)]]):=by
 refine lT (h:=Go.Ev.textF) (by kernel_rfl) ?_
 have h2:=sX o
 have h3:(ofBytes o).length<1152921504606846976:=by rw[dD];omega
 simp only[Go.Ev.textF,h2,h3,decide_true,Bool.and_self,if_true,eG]
theorem Ck (o:List Ad) (ho:ow o≤1000000000):∀(n i:Nat),o.length - i=n→i≤o.length→
  Evt (fun k j=>L12 (aB cfg k) j (o.map adV) (o.length:Nat) (i:Nat) (ofBytes (eR (o.take i)))) (.str (([40]++eR o)++[41]),[])
 |0,i,h,hi=>by
  have hle:=oM o
  refine Eg (o.map adV) (o.length:Nat) (i:Nat) (ofBytes (eR (o.take i))) ?_
  have h1:¬((i:Int)<(o.length:Int)):=by omega
  simp only[xY,h1,decide_false,Bool.false_eq_true,if_false]
  rw[List.take_of_length_le (by omega)]
  refine aL (Di _ (by omega)) ?_
  have c1:cH [40] (eR o)=true:=kO (by simp;omega)
  have c2:cH ([40]++eR o) [41]=true:=kO (by simp;omega)
  simp only[cT,eQ c1,eQ c2]
  exact aM _
 |n+1,i,h,hi=>by
  have hlt:i<o.length:=by omega
  have hle:=oM o
  have hol:=zV o
  have ha:=Ci hlt
  have htake:eR (o.take (i+1))=eR (o.take i)++qQ o[i]:=by
   unfold eR
   rw[List.take_succ_eq_append_getElem hlt,List.flatMap_append,List.flatMap_cons,List.flatMap_nil,List.append_nil]
  have hpre:(eR (o.take (i+1))).length≤(eR o).length:=by
   conv=>rhs;rw[←List.take_append_drop (i+1) o,eR,List.flatMap_append,List.length_append]
   exact Nat.le_add_right _ _
  refine Eg (o.map adV) (o.length:Nat) (i:Nat) (ofBytes (eR (o.take i))) ?_
  have h1:((i:Int)<(o.length:Int)):=by omega
  have h2:(0:Int)≤(i:Nat):=by omega
  have hw:IntKind.wrap .i64 (((i:Nat):Int)+1)=((i+1:Nat):Int):=by rw[wrap64 (by omega) (by omega)];omega
  simp only[xY,h1,decide_true,if_true,aW h2,lU,Int.toNat_natCast,Dg hlt,hw,List.length_map,Cj,List.headD_cons,List.tail_cons,fD,cT,Dh]
  refine aL (Gl o[i] (by omega)) ?_
  rw[htake,List.length_append]at hpre
  refine aL (Ga (eR (o.take i)) (qQ o[i]) (by omega)) ?_
  simp only[List.headD_cons,Ob.getC,List.tail_cons,V.getL]
  rw[←htake]
  exact Ck o ho n (i+1) (by omega) (by omega)
theorem uI (o:List Ad) (ho:ow o≤1000000000):Ret 12 [.lst 26 false (o.map adV)] [] (.str (pT o),[]):=by
 refine M12 (o.map adV) ?_
 simp only[T12,List.length_map]
 unfold pT
 by_cases h:o=[]
 ·subst h
  have z:(((([]:List Ad).length:Nat):Int)==0)=true:=rfl
  simp only[z,if_true]
  exact aM _
 ·have hp:=List.length_pos_iff.2 h
  have z:(((o.length:Nat):Int)==0)=false:=by
   have:¬((o.length:Nat):Int)=0:=by omega
   simpa using this
  simp only[z,Bool.false_eq_true,if_false,if_neg h]
  exact Ck o ho _ 0 rfl (by omega)
structure En where
 d:Bs
 s:Bs
 l0:List Ad
 l1:List Ad
 l2:List Ad
 l3:List Ad
 l4:List Ad
 l5:List Ad
 r:Bs
 i:Bs
 h0:Bool
 h1:Bool
 h2:Bool
 h3:Bool
def lsV (o:List Ad):V:= .lst 26 false (o.map adV)
def enV (e:En):V:= .agg [.str e.d, .str e.s,lsV e.l0,lsV e.l1,lsV e.l2,lsV e.l3,lsV e.l4,lsV e.l5, .str e.r, .str e.i, .bool e.h0, .bool e.h1, .bool e.h2, .bool e.h3]
def enL (e:En):List Bs:=[nB e.d e.h0,nB e.s e.h1,pT e.l0,pT e.l1,pT e.l2,pT e.l3,pT e.l4,pT e.l5,nB e.r e.h2,nB e.i e.h3]
def ET (e:En):Bs:=zU (enL e)
def EU (call:FuncId→Fun) (d s:Bs) (x0 x1 x2 x3 x4 x5:List V) (r i:Bs) (h0 h1 h2 h3:Bool):Option (V×List Ob):=
 Option.bind (call 52 [.str d, .bool h0] []) fun z0=>
 Option.bind (call 52 [.str s, .bool h1] []) fun z1=>
 Option.bind (call 12 [.lst 26 false x0] []) fun y0=>chk (cK [rdS z0,rdS z1] [rdS y0] 17) (
 Option.bind (call 12 [.lst 26 false x1] []) fun y1=>chk (cK ([rdS z0,rdS z1]++[rdS y0]) [rdS y1] 17) (
 Option.bind (call 12 [.lst 26 false x2] []) fun y2=>chk (cK (([rdS z0,rdS z1]++[rdS y0])++[rdS y1]) [rdS y2] 17) (
 Option.bind (call 12 [.lst 26 false x3] []) fun y3=>chk (cK ((([rdS z0,rdS z1]++[rdS y0])++[rdS y1])++[rdS y2]) [rdS y3] 17) (
 Option.bind (call 12 [.lst 26 false x4] []) fun y4=>chk (cK (((([rdS z0,rdS z1]++[rdS y0])++[rdS y1])++[rdS y2])++[rdS y3]) [rdS y4] 17) (
 Option.bind (call 12 [.lst 26 false x5] []) fun y5=>chk (cK ((((([rdS z0,rdS z1]++[rdS y0])++[rdS y1])++[rdS y2])++[rdS y3])++[rdS y4]) [rdS y5] 17) (
 Option.bind (call 52 [.str r, .bool h2] []) fun z2=>
 Option.bind (call 52 [.str i, .bool h3] []) fun z3=>
 chk (cK (((((([rdS z0,rdS z1]++[rdS y0])++[rdS y1])++[rdS y2])++[rdS y3])++[rdS y4])++[rdS y5]) [rdS z2,rdS z3] 17) (Option.bind (call 53 [.lst 9 false ((((((([rdS z0,rdS z1]++[rdS y0])++[rdS y1])++[rdS y2])++[rdS y3])++[rdS y4])++[rdS y5])++[rdS z2,rdS z3])] []) fun z4=>some (rdS z4,[]))))))))
theorem GG (m:Nat) (d s:Bs) (x0 x1 x2 x3 x4 x5:List V) (r i:Bs) (h0 h1 h2 h3:Bool):aB cfg (m+20) 26 [.agg [.str d, .str s, .lst 26 false x0, .lst 26 false x1, .lst 26 false x2, .lst 26 false x3, .lst 26 false x4, .lst 26 false x5, .str r, .str i, .bool h0, .bool h1, .bool h2, .bool h3]] []=EU (aB cfg (m+19)) d s x0 x1 x2 x3 x4 x5 r i h0 h1 h2 h3:=by kernel_rfl
theorem Dj {f:FuncId} {args:List V} {objs:List Ob} {r:V×List Ob} {g:Nat→Option (V×List Ob)} (K:Nat) (hc:∀m,aB cfg (m+(K+1)) f args objs=g (m+K)) (h:Evt (fun k _=>g k) r):Ret f args objs r:=by
 obtain⟨K2,h⟩:=h
 refine⟨K2+(K+1),fun k hk=>?_⟩
 obtain⟨m,rfl⟩:∃m,k=m+(K+1):=⟨k - (K+1),by omega⟩
 rw[hc];exact h (m+K) K2 (by omega) (by omega)
theorem iS (s:Bs) (o:List Ob):rdS (.str s,o)= .str s:=rfl
theorem Gm (e:En) (hd:e.d.length≤100000000) (hs:e.s.length≤100000000) (hr:e.r.length≤100000000) (hi:e.i.length≤100000000)
  (g0:ow e.l0≤100000000) (g1:ow e.l1≤100000000) (g2:ow e.l2≤100000000) (g3:ow e.l3≤100000000) (g4:ow e.l4≤100000000) (g5:ow e.l5≤100000000):
  Ret 26 [enV e] [] (.str (ET e),[]):=by
 refine Dj (g:=fun k=>EU (aB cfg k) e.d e.s (e.l0.map adV) (e.l1.map adV) (e.l2.map adV) (e.l3.map adV) (e.l4.map adV) (e.l5.map adV) e.r e.i e.h0 e.h1 e.h2 e.h3) 19 (fun m=>GG m e.d e.s (e.l0.map adV) (e.l1.map adV) (e.l2.map adV) (e.l3.map adV) (e.l4.map adV) (e.l5.map adV) e.r e.i e.h0 e.h1 e.h2 e.h3) ?_
 have ca:∀(l:List V) (v:V) (x:Option (V×List Ob)),l.length≤20→chk (cK l [v] 17) x=x:=fun l v x h=>eQ (lV (by simp only[List.length_cons,List.length_nil];omega)) x
 have ca2:∀(l:List V) (v u:V) (x:Option (V×List Ob)),l.length≤20→chk (cK l [v,u] 17) x=x:=fun l v u x h=>eQ (lV (by simp only[List.length_cons,List.length_nil];omega)) x
 have hrow:Ret 53 [.lst 9 false ((enL e).map V.str)] [] (.str (ET e),[]):=by
  have hm:∀x∈enL e,x.length≤4000000000:=by
   have q0:=fF e.d e.h0
   have q1:=fF e.s e.h1
   have q2:=fF e.r e.h2
   have q3:=fF e.i e.h3
   have p0:=eH e.l0
   have p1:=eH e.l1
   have p2:=eH e.l2
   have p3:=eH e.l3
   have p4:=eH e.l4
   have p5:=eH e.l5
   intro x hx
   simp only[enL,List.mem_cons,List.not_mem_nil,or_false]at hx
   rcases hx with rfl|rfl|rfl|rfl|rfl|rfl|rfl|rfl|rfl|rfl<;>omega
  have:=qT _ _ hm
  have e1:(enL e).length=10:=rfl
  rw[e1]at this
  exact Ei (enL e) (by rw[e1];omega) (by omega)
 simp only[EU]
 refine aL (xX e.d (by omega) e.h0) ?_
 refine aL (xX e.s (by omega) e.h1) ?_
 simp only[iS]
 refine aL (uI e.l0 (by omega)) ?_
 simp only[iS,ca,List.length_append,List.length_cons,List.length_nil,Nat.reduceAdd,Nat.reduceLeDiff]
 refine aL (uI e.l1 (by omega)) ?_
 simp only[iS,ca,List.length_append,List.length_cons,List.length_nil,Nat.reduceAdd,Nat.reduceLeDiff]
 refine aL (uI e.l2 (by omega)) ?_
 simp only[iS,ca,List.length_append,List.length_cons,List.length_nil,Nat.reduceAdd,Nat.reduceLeDiff]
 refine aL (uI e.l3 (by omega)) ?_
 simp only[iS,ca,List.length_append,List.length_cons,List.length_nil,Nat.reduceAdd,Nat.reduceLeDiff]
 refine aL (uI e.l4 (by omega)) ?_
 simp only[iS,ca,List.length_append,List.length_cons,List.length_nil,Nat.reduceAdd,Nat.reduceLeDiff]
 refine aL (uI e.l5 (by omega)) ?_
 simp only[iS,ca,List.length_append,List.length_cons,List.length_nil,Nat.reduceAdd,Nat.reduceLeDiff]
 refine aL (xX e.r (by omega) e.h2) ?_
 refine aL (xX e.i (by omega) e.h3) ?_
 simp only[iS,ca2,List.length_append,List.length_cons,List.length_nil,Nat.reduceAdd,Nat.reduceLeDiff]
 refine aL hrow ?_
 exact aM _
end Go.Proofs.YtdoaoaicdimbeaaGreatDoor
end
section
namespace Go.Proofs.YtdoaoaicdimbeaaGreatDoor
open Go.Ev Go
open List (headD tail getD length drop take)
open V (getI getL getT getS getB)
set_option maxRecDepth 100000
variable (call : FuncId → Fun) (icall : aO (V × List Ob)) (again : List It → St → Option (V × List Ob))
def etC (d s:List UInt8) (x0 x1 x2 x3 x4 x5:List V) (r i:List UInt8) (h0 h1 h2 h3:Bool):List V:=[V.str d,V.str s,V.lst 26 false x0,V.lst 26 false x1,V.lst 26 false x2,V.lst 26 false x3,V.lst 26 false x4,V.lst 26 false x5,V.str r,V.str i,V.bool h0,V.bool h1,V.bool h2,V.bool h3]
def KA (d s:List UInt8) (x0 x1 x2 x3 x4 x5:List V) (r i:List UInt8) (h0 h1 h2 h3:Bool) (n j:Int):St:=⟨[V.bot,V.ref 0 0,V.bot,V.bot,V.int IntKind.i64 n,V.int IntKind.i64 j]++List.replicate 99 V.bot,[Ob.cells (etC d s x0 x1 x2 x3 x4 x5 r i h0 h1 h2 h3)]⟩
def KB (l:List V) (dp pt j:Int):St:=⟨[V.bot,V.bot,V.bot,V.bot,V.bot,V.bot,V.lst 68 false l,V.bot,V.int IntKind.i64 dp,V.int IntKind.i64 pt,V.int IntKind.i64 j]++List.replicate 94 V.bot,[]⟩
def etK (l:List V) (j:Int):Int:=getI (headD (V.cells (getD l (Int.toNat j) V.bot)) V.bot)
def etL (ag:List V→Int→Int→Int→Option (V×List Ob)) (l:List V) (dp pt j:Int):Option (V×List Ob):=
 Option.bind (if(decide (dp<(0:Int)))=false then if(dp==(0:Int))=true then some (decide (j<(IntKind.wrap IntKind.i64 (((length l:Nat):Int) - (1:Int)))))else some false else some true) fun y0=>
 if y0=true then some ((V.bool false),[])else ag l dp pt (IntKind.wrap IntKind.i64 (j+(1:Int)))
def etM (ag:List V→Int→Int→Int→Option (V×List Ob)) (l:List V) (dp pt j:Int):Option (V×List Ob):=
 chk (decide (0≤j)) (chk (decide (j<((length l:Nat):Int))) (if(etK l j==(4:Int))=true then etL ag l (IntKind.wrap IntKind.i64 (dp - (1:Int))) pt j else etL ag l dp pt j))
def etO (ag:List V→Int→Int→Int→Option (V×List Ob)) (l:List V) (dp pt j:Int):Option (V×List Ob):=
 chk (decide (0≤j)) (chk (decide (j<((length l:Nat):Int))) (if(etK l j==(3:Int))=true then etM ag l (IntKind.wrap IntKind.i64 (dp+(1:Int))) pt j else etM ag l dp pt j))
def etT (ag:List V→Int→Int→Int→Option (V×List Ob)) (l:List V) (dp pt j:Int):Option (V×List Ob):=
 if(decide (j<((length l:Nat):Int)))=true then
  Option.bind (if(dp==(1:Int))=true then
    chk (decide (0≤j)) (chk (decide (j<((length l:Nat):Int))) (if(etK l j==(1:Int))=false then
     chk (decide (0≤j)) (chk (decide (j<((length l:Nat):Int))) (if(etK l j==(2:Int))=false then
      chk (decide (0≤j)) (chk (decide (j<((length l:Nat):Int))) (some (etK l j==(3:Int))))
     else some true))
    else some true))
   else some false) fun y0=>
  if y0=true then etO ag l dp (IntKind.wrap IntKind.i64 (pt+(1:Int))) j else etO ag l dp pt j
 else
  Option.bind (if(dp==(0:Int))=true then some (pt==(10:Int))else some false) fun y0=>some ((V.bool y0),[])
theorem etS (l:List V) (dp pt j:Int):
  RM 9 Tryz.f9 [] call icall again (bE Tryz.f9 1) (KB l dp pt j)=etT (fun l dp pt j=>again (bE Tryz.f9 1) (KB l dp pt j)) l dp pt j:=by kernel_rfl
theorem GH (d s:List UInt8) (x0 x1 x2 x3 x4 x5:List V) (r i:List UInt8) (h0 h1 h2 h3:Bool) (n:Int):RM 9 Tryz.f9 [] call icall again (bE Tryz.f9 0) (KA d s x0 x1 x2 x3 x4 x5 r i h0 h1 h2 h3 n 0)=again (bE Tryz.f9 0) (KA d s x0 x1 x2 x3 x4 x5 r i h0 h1 h2 h3 (IntKind.wrap IntKind.i64 (n+((length x0:Nat):Int))) 1):=by kernel_rfl
theorem GI (d s:List UInt8) (x0 x1 x2 x3 x4 x5:List V) (r i:List UInt8) (h0 h1 h2 h3:Bool) (n:Int):RM 9 Tryz.f9 [] call icall again (bE Tryz.f9 0) (KA d s x0 x1 x2 x3 x4 x5 r i h0 h1 h2 h3 n 1)=again (bE Tryz.f9 0) (KA d s x0 x1 x2 x3 x4 x5 r i h0 h1 h2 h3 (IntKind.wrap IntKind.i64 (n+((length x1:Nat):Int))) 2):=by kernel_rfl
theorem GK (d s:List UInt8) (x0 x1 x2 x3 x4 x5:List V) (r i:List UInt8) (h0 h1 h2 h3:Bool) (n:Int):RM 9 Tryz.f9 [] call icall again (bE Tryz.f9 0) (KA d s x0 x1 x2 x3 x4 x5 r i h0 h1 h2 h3 n 2)=again (bE Tryz.f9 0) (KA d s x0 x1 x2 x3 x4 x5 r i h0 h1 h2 h3 (IntKind.wrap IntKind.i64 (n+((length x2:Nat):Int))) 3):=by kernel_rfl
theorem GL (d s:List UInt8) (x0 x1 x2 x3 x4 x5:List V) (r i:List UInt8) (h0 h1 h2 h3:Bool) (n:Int):RM 9 Tryz.f9 [] call icall again (bE Tryz.f9 0) (KA d s x0 x1 x2 x3 x4 x5 r i h0 h1 h2 h3 n 3)=again (bE Tryz.f9 0) (KA d s x0 x1 x2 x3 x4 x5 r i h0 h1 h2 h3 (IntKind.wrap IntKind.i64 (n+((length x3:Nat):Int))) 4):=by kernel_rfl
theorem GM (d s:List UInt8) (x0 x1 x2 x3 x4 x5:List V) (r i:List UInt8) (h0 h1 h2 h3:Bool) (n:Int):RM 9 Tryz.f9 [] call icall again (bE Tryz.f9 0) (KA d s x0 x1 x2 x3 x4 x5 r i h0 h1 h2 h3 n 4)=again (bE Tryz.f9 0) (KA d s x0 x1 x2 x3 x4 x5 r i h0 h1 h2 h3 (IntKind.wrap IntKind.i64 (n+((length x4:Nat):Int))) 5):=by kernel_rfl
theorem GN (d s:List UInt8) (x0 x1 x2 x3 x4 x5:List V) (r i:List UInt8) (h0 h1 h2 h3:Bool) (n:Int):RM 9 Tryz.f9 [] call icall again (bE Tryz.f9 0) (KA d s x0 x1 x2 x3 x4 x5 r i h0 h1 h2 h3 n 5)=again (bE Tryz.f9 0) (KA d s x0 x1 x2 x3 x4 x5 r i h0 h1 h2 h3 (IntKind.wrap IntKind.i64 (n+((length x5:Nat):Int))) 6):=by kernel_rfl
def etP (ag:List V→Int→Int→Int→Option (V×List Ob)) (d s:List UInt8) (x0 x1 x2 x3 x4 x5:List V) (r i:List UInt8) (h0 h1 h2 h3:Bool) (n:Int):Option (V×List Ob):=
 if(decide (n>(30:Int)))=true then some ((V.bool true),[])
 else
  Option.bind (call 26 [V.agg (etC d s x0 x1 x2 x3 x4 x5 r i h0 h1 h2 h3)] []) fun z1=>
  Option.bind (call 25 [V.lst 5 false (ofBytes (getS z1.1))] []) fun z2=>
  if((getI (headD (tail (getT z2.1)) V.bot)) != (0:Int))=true then some ((V.bool false),[])
  else ag (getL (headD (getT z2.1) V.bot)) 0 0 0
theorem GP (d s:List UInt8) (x0 x1 x2 x3 x4 x5:List V) (r i:List UInt8) (h0 h1 h2 h3:Bool) (n:Int):RM 9 Tryz.f9 [] call icall again (bE Tryz.f9 0) (KA d s x0 x1 x2 x3 x4 x5 r i h0 h1 h2 h3 n 6)=etP call (fun l dp pt j=>again (bE Tryz.f9 1) (KB l dp pt j)) d s x0 x1 x2 x3 x4 x5 r i h0 h1 h2 h3 n:=by kernel_rfl
def etE (ag0:Option (V×List Ob)):Option (V×List Ob):=
 Option.bind (call 11 [] []) fun z0=>if(!(getB z0.1))=true then some ((V.bool false),[])else ag0
theorem etG (d s:List UInt8) (x0 x1 x2 x3 x4 x5:List V) (r i:List UInt8) (h0 h1 h2 h3:Bool):GO 9 Tryz.f9 [V.agg (etC d s x0 x1 x2 x3 x4 x5 r i h0 h1 h2 h3)] [] call icall again=etE call (again (bE Tryz.f9 0) (KA d s x0 x1 x2 x3 x4 x5 r i h0 h1 h2 h3 0 0)):=by kernel_rfl
def L9:Nat→(List V→Int→Int→Int→Option (V×List Ob))
 |0=>fun _ _ _ _=>none
 |n+1=>etT (L9 n)
theorem etR:∀(n:Nat) (l:List V) (dp pt j:Int),RN 9 Tryz.f9 [] call icall n (bE Tryz.f9 1) (KB l dp pt j)=L9 n l dp pt j
 |0,_,_,_,_=>rfl
 |n+1,l,dp,pt,j=>by
  have ih:=etR n
  refine(etS call icall (RN 9 Tryz.f9 [] call icall n) l dp pt j).trans ?_
  rw[show(fun l dp pt j=>RN 9 Tryz.f9 [] call icall n (bE Tryz.f9 1) (KB l dp pt j))=L9 n from funext fun l=>funext fun dp=>funext fun pt=>funext fun j=>ih l dp pt j]
  rfl
def etN (x0 x1 x2 x3 x4 x5:List V):Int:=IntKind.wrap IntKind.i64 (IntKind.wrap IntKind.i64 (IntKind.wrap IntKind.i64 (IntKind.wrap IntKind.i64 (IntKind.wrap IntKind.i64 (IntKind.wrap IntKind.i64 (0+((length x0:Nat):Int))+((length x1:Nat):Int))+((length x2:Nat):Int))+((length x3:Nat):Int))+((length x4:Nat):Int))+((length x5:Nat):Int))
theorem GQ (d s:List UInt8) (x0 x1 x2 x3 x4 x5:List V) (r i:List UInt8) (h0 h1 h2 h3:Bool) (m:Nat):aB cfg (m+9) 9 [V.agg (etC d s x0 x1 x2 x3 x4 x5 r i h0 h1 h2 h3)] []=etE (aB cfg (m+8)) (etP (aB cfg (m+8)) (L9 (m+1)) d s x0 x1 x2 x3 x4 x5 r i h0 h1 h2 h3 (etN x0 x1 x2 x3 x4 x5)):=by
 generalize hc:aB cfg (m+8)=call
 generalize hi:(aN cfg call 20:aO (V×List Ob))=ic
 refine(show aB cfg (m+9) 9 [V.agg (etC d s x0 x1 x2 x3 x4 x5 r i h0 h1 h2 h3)] []=GO 9 Tryz.f9 [V.agg (etC d s x0 x1 x2 x3 x4 x5 r i h0 h1 h2 h3)] [] call ic (RN 9 Tryz.f9 [] call ic (m+8))by subst hi;subst hc;kernel_rfl).trans ((etG call ic _ d s x0 x1 x2 x3 x4 x5 r i h0 h1 h2 h3).trans (congrArg (etE call) ?_))
 refine(GH call ic (RN 9 Tryz.f9 [] call ic (m+7)) d s x0 x1 x2 x3 x4 x5 r i h0 h1 h2 h3 0).trans ?_
 refine(GI call ic (RN 9 Tryz.f9 [] call ic (m+6)) d s x0 x1 x2 x3 x4 x5 r i h0 h1 h2 h3 _).trans ?_
 refine(GK call ic (RN 9 Tryz.f9 [] call ic (m+5)) d s x0 x1 x2 x3 x4 x5 r i h0 h1 h2 h3 _).trans ?_
 refine(GL call ic (RN 9 Tryz.f9 [] call ic (m+4)) d s x0 x1 x2 x3 x4 x5 r i h0 h1 h2 h3 _).trans ?_
 refine(GM call ic (RN 9 Tryz.f9 [] call ic (m+3)) d s x0 x1 x2 x3 x4 x5 r i h0 h1 h2 h3 _).trans ?_
 refine(GN call ic (RN 9 Tryz.f9 [] call ic (m+2)) d s x0 x1 x2 x3 x4 x5 r i h0 h1 h2 h3 _).trans ?_
 refine(GP call ic (RN 9 Tryz.f9 [] call ic (m+1)) d s x0 x1 x2 x3 x4 x5 r i h0 h1 h2 h3 _).trans ?_
 rw[show(fun l dp pt j=>RN 9 Tryz.f9 [] call ic (m+1) (bE Tryz.f9 1) (KB l dp pt j))=L9 (m+1)from funext fun l=>funext fun dp=>funext fun pt=>funext fun j=>etR call ic (m+1) l dp pt j]
 rfl
theorem M9 (d s:List UInt8) (x0 x1 x2 x3 x4 x5:List V) (r i:List UInt8) (h0 h1 h2 h3:Bool) {res:V×List Ob} (h:Evt (fun k n=>etE (aB cfg k) (etP (aB cfg k) (L9 n) d s x0 x1 x2 x3 x4 x5 r i h0 h1 h2 h3 (etN x0 x1 x2 x3 x4 x5))) res):Ret 9 [V.agg (etC d s x0 x1 x2 x3 x4 x5 r i h0 h1 h2 h3)] [] res:=by
 obtain⟨K,h⟩:=h
 refine⟨K+9,fun k hk=>?_⟩
 obtain⟨m,rfl⟩:∃m,k=m+9:=⟨k - 9,by omega⟩
 rw[GQ]
 exact h (m+8) (m+1) (by omega) (by omega)
theorem N9 (l:List V) (dp pt j:Int) {res:V×List Ob} (h:Evt (fun _ n=>etT (L9 n) l dp pt j) res):Evt (fun _ n=>L9 n l dp pt j) res:=fC (fun _ _=>rfl) h
end Go.Proofs.YtdoaoaicdimbeaaGreatDoor
end
section
namespace Go.Proofs.YtdoaoaicdimbeaaGreatDoor
open Go.Ev Go
end Go.Proofs.YtdoaoaicdimbeaaGreatDoor
end
section
namespace Go.Proofs.YtdoaoaicdimbeaaGreatDoor
open Go.Ev Go
end Go.Proofs.YtdoaoaicdimbeaaGreatDoor
end
section
namespace Go.Proofs.YtdoaoaicdimbeaaGreatDoor
open Go.Ev Go
end Go.Proofs.YtdoaoaicdimbeaaGreatDoor
end
section
namespace Go.Proofs.YtdoaoaicdimbeaaGreatDoor
open Go.Ev Go
end Go.Proofs.YtdoaoaicdimbeaaGreatDoor
end
section
namespace Go.Proofs.YtdoaoaicdimbeaaGreatDoor
open Go.Ev Go
end Go.Proofs.YtdoaoaicdimbeaaGreatDoor
end
section
namespace Go.Proofs.YtdoaoaicdimbeaaGreatDoor
open Go.Ev Go
open List (headD tail getD length drop take)
open V (getI getL getT getS getB)
set_option maxRecDepth 100000
variable (call : FuncId → Fun) (icall : aO (V × List Ob)) (again : List It → St → Option (V × List Ob))
end Go.Proofs.YtdoaoaicdimbeaaGreatDoor
end
section
namespace Go.Proofs.YtdoaoaicdimbeaaGreatDoor
open Go.Ev Go
def prB (c:UInt8):Bool:=decide (32≤c.toNat∧c.toNat<127)
structure Sp where
 path:List Int
 what:Int
 names:List Bs
 cut:Bool
 fr:Int
 many:Int
def inB (l n:Int):Bool:=decide (l≤n∧n≤4294967295)
def checkF (s:Sp):Bool:=
 decide (s.path.length≤64∧0≤s.what∧s.what≤5∧(s.what=5→0<s.path.length))&&s.path.all (inB 1)&&s.names.all (fun n=>n.all prB)&&
 (if s.what=2∨s.what=3 then decide (1≤s.names.length∧s.names.length≤100)else decide (s.names.length=0))&&
 (if s.cut then inB 0 s.fr&&inB 1 s.many else decide (s.fr=0∧s.many=0))
end Go.Proofs.YtdoaoaicdimbeaaGreatDoor
end
section
namespace Go.Proofs.YtdoaoaicdimbeaaGreatDoor
open Go.Ev Go
end Go.Proofs.YtdoaoaicdimbeaaGreatDoor
end
section
namespace Go.Proofs.YtdoaoaicdimbeaaGreatDoor
open Go.Ev Go
end Go.Proofs.YtdoaoaicdimbeaaGreatDoor
end
section
namespace Go.Proofs.YtdoaoaicdimbeaaGreatDoor
open Go.Ev Go
end Go.Proofs.YtdoaoaicdimbeaaGreatDoor
end
section
namespace Go.Proofs.YtdoaoaicdimbeaaGreatDoor
open Go.Ev Go
def CCh:Nat→List (Nat×Nat)→Nat→Prop
 |a,[],z=>a≤z
 |a,c::r,z=>a≤c.1∧c.1≤c.2∧CCh c.2 r z
theorem CCh.le {z:Nat}:∀{l:List (Nat×Nat)} {a:Nat},CCh a l z→a≤z
 |[],_,h=>h
 |c::r,_,h=>Nat.le_trans h.1 (Nat.le_trans h.2.1 (CCh.le h.2.2))
theorem CCh.mono {z z' :Nat} (hz:z≤z'):∀{l:List (Nat×Nat)} {a:Nat},CCh a l z→CCh a l z'
 |[],_,h=>Nat.le_trans h hz
 |c::r,_,h=>⟨h.1,h.2.1,CCh.mono hz h.2.2⟩
def KR (Q:Nat→Nat→Pt→Prop) (fin:Nat):List (Nat×Nat)→List Pt→Prop
 |[],[]=>True
 |c::r,q::ks=>Q c.2 (Gb fin r) q∧KR Q fin r ks
 |_,_=>False
theorem KR.len {Q:Nat→Nat→Pt→Prop} {fin:Nat}:∀{cs:List (Nat×Nat)} {ks:List Pt},KR Q fin cs ks→ks.length=cs.length
 |[],[],_=>rfl
 |c::r,q::ks,h=>by simp[KR.len h.2]
 |[],_::_,h=>h.elim
 |_::_,[],h=>h.elim
def Chn:Nat→List (Nat×Nat×Nat)→Nat→Prop
 |a,[],z=>a=z
 |a,t::r,z=>t.1≤5∧t.2.1=a∧a≤t.2.2∧Chn t.2.2 r z
theorem Chn.le {z:Nat}:∀{l:List (Nat×Nat×Nat)} {a:Nat},Chn a l z→a≤z
 |[],a,h=>Nat.le_of_eq h
 |t::r,a,h=>Nat.le_trans h.2.2.1 (Chn.le h.2.2.2)
end Go.Proofs.YtdoaoaicdimbeaaGreatDoor
end
section
namespace Go.Proofs.YtdoaoaicdimbeaaGreatDoor
open Go.Ev Go
open List (headD tail getD length drop take)
open V (getI getL getT getS getB)
set_option maxRecDepth 100000
variable (call : FuncId → Fun) (icall : aO (V × List Ob)) (again : List It → St → Option (V × List Ob))
end Go.Proofs.YtdoaoaicdimbeaaGreatDoor
end
section
namespace Go.Proofs.YtdoaoaicdimbeaaGreatDoor
open Go.Ev Go
def putK:Nat:=30000000000
end Go.Proofs.YtdoaoaicdimbeaaGreatDoor
end
section
namespace Go.Proofs.YtdoaoaicdimbeaaGreatDoor
open Go.Ev Go
theorem ca (l m:List V) (x:Option (V×List Ob)) (h:l.length+m.length≤100):chk (cK l m 17) x=x:=eQ (lV (by omega)) x
end Go.Proofs.YtdoaoaicdimbeaaGreatDoor
end
section
namespace Go.Proofs.YtdoaoaicdimbeaaGreatDoor
open Go.Ev Go
end Go.Proofs.YtdoaoaicdimbeaaGreatDoor
end
section
namespace Go.Proofs.YtdoaoaicdimbeaaGreatDoor
open Go.Ev Go
open List (headD tail getD length drop take)
open V (getI getL getT getS getB)
set_option maxRecDepth 100000
variable (call : FuncId → Fun) (icall : aO (V × List Ob)) (again : List It → St → Option (V × List Ob))
def xZ (call:FuncId→Fun) (ag0:List V→List UInt8→Option (V×List Ob)) (l0:List V) (s1:List UInt8):Option (V×List Ob):=
 if(!(sEq s1 []))=true then
 Option.bind (call 51 [(V.str s1)] []) fun z0=>
 if(!(getB (headD (tail (tail (getT z0.1))) V.bot)))=true then
 some ((V.tup [(V.lst 68 false []),(V.int .i64 50)]),[])
 else
 chk (cK l0 [(V.agg [(V.int .i64 (getI (headD (V.cells (headD (getT z0.1) V.bot)) V.bot))),(V.str (getS (headD (tail (V.cells (headD (getT z0.1) V.bot))) V.bot)))])] 25) ((ag0 ((l0++[(V.agg [(V.int .i64 (getI (headD (V.cells (headD (getT z0.1) V.bot)) V.bot))),(V.str (getS (headD (tail (V.cells (headD (getT z0.1) V.bot))) V.bot)))])])) ((getS (headD (tail (getT z0.1)) V.bot)))))
 else
 some ((V.tup [(V.lst 68 false l0),(V.int .i64 0)]),[])
def T25 (call:FuncId→Fun) (ag0:List V→List UInt8→Option (V×List Ob)) (a0:List V):Option (V×List Ob):=
 (ag0 ([]) ((bytesOf a0)))
def A25 (a0:List V):List V:=[V.lst 5 false a0]
def uJ (l0:List V) (s1:List UInt8):St:=⟨[V.bot,V.bot,V.bot,V.bot,(V.lst 68 true l0),(V.str s1)]++List.replicate 21 V.bot,[]⟩
theorem Gn (l0:List V) (s1:List UInt8):
 RM 25 Tryz.f25 [] call icall again (bE Tryz.f25 0) (uJ l0 s1)=xZ call (fun l0 s1=>again (bE Tryz.f25 0) (uJ l0 s1)) l0 s1:=by kernel_rfl
theorem E25 (a0:List V):GO 25 Tryz.f25 (A25 a0) [] call icall again=T25 call (fun l0 s1=>again (bE Tryz.f25 0) (uJ l0 s1)) a0:=by kernel_rfl
def L25 (call:FuncId→Fun):Nat→(List V→List UInt8→Option (V×List Ob))
 |0=>fun _ _=>none
 |n+1=>xZ call (L25 call n)
theorem R25 (call:FuncId→Fun) (icall:aO (V×List Ob)):∀n,(∀(l0:List V) (s1:List UInt8),RN 25 Tryz.f25 [] call icall n (bE Tryz.f25 0) (uJ l0 s1)=(L25 call n) l0 s1)
 |0=>fun l0 s1=>rfl
 |n+1=>by
  have ih:=R25 call icall n
  exact fun l0 s1=>(Gn call icall (RN 25 Tryz.f25 [] call icall n) l0 s1).trans (by rw[show(fun l0 s1=>RN 25 Tryz.f25 [] call icall n (bE Tryz.f25 0) (uJ l0 s1))=(L25 call n)from(funext fun l0=>funext fun s1=>ih l0 s1)];rfl)
theorem C25 (k:Nat) (a0:List V):aB cfg (k+1) 25 (A25 a0) []=T25 (aB cfg k) (L25 (aB cfg k) k) a0:=by
 have ih:=R25 (aB cfg k) (aN cfg (aB cfg k) 20) k
 refine(show aB cfg (k+1) 25 (A25 a0) []=GO 25 Tryz.f25 (A25 a0) [] (aB cfg k) (aN cfg (aB cfg k) 20) (RN 25 Tryz.f25 [] (aB cfg k) (aN cfg (aB cfg k) 20) k)by kernel_rfl).trans ((E25 _ _ _ a0).trans ?_)
 rw[show(fun l0 s1=>RN 25 Tryz.f25 [] (aB cfg k) (aN cfg (aB cfg k) 20) k (bE Tryz.f25 0) (uJ l0 s1))=(L25 (aB cfg k) k)from(funext fun l0=>funext fun s1=>ih l0 s1)]
theorem M25 (a0:List V) {r:V×List Ob} (h:Evt (fun k n=>T25 (aB cfg k) (L25 (aB cfg k) n) a0) r):Ret 25 [V.lst 5 false a0] [] r:=bX (g:=fun k n=>T25 (aB cfg k) (L25 (aB cfg k) n) a0) (fun k=>C25 k a0) h
theorem Ej (l0:List V) (s1:List UInt8) {r:V×List Ob} (h:Evt (fun k n=>xZ (aB cfg k) (L25 (aB cfg k) n) l0 s1) r):Evt (fun k n=>(L25 (aB cfg k) n) l0 s1) r:=fC (fun k n=>rfl) h
def T51 (call:FuncId→Fun) (a0:List UInt8):Option (V×List Ob):=
 chk (decide (0≤(0:Int))) (chk (decide ((0:Int)<((length a0:Nat):Int))) (if(((UInt8.toNat (getD a0 (Int.toNat (0:Int)) 0):Nat):Int)==(40:Int))=true then
 chk (decide (0≤(1:Int))) (chk (decide ((1:Int)≤((length a0:Nat):Int))) (some ((V.tup [(V.agg [(V.int .i64 3),(V.str [])]),(V.str (drop (Int.toNat (1:Int)) a0)),(V.bool true)]),[])))
 else
 if(((UInt8.toNat (getD a0 (Int.toNat (0:Int)) 0):Nat):Int)==(41:Int))=true then
 chk (decide (0≤(1:Int))) (chk (decide ((1:Int)≤((length a0:Nat):Int))) (some ((V.tup [(V.agg [(V.int .i64 4),(V.str [])]),(V.str (drop (Int.toNat (1:Int)) a0)),(V.bool true)]),[])))
 else
 if(((UInt8.toNat (getD a0 (Int.toNat (0:Int)) 0):Nat):Int)==(32:Int))=true then
 chk (decide (0≤(1:Int))) (chk (decide ((1:Int)≤((length a0:Nat):Int))) (some ((V.tup [(V.agg [(V.int .i64 5),(V.str [])]),(V.str (drop (Int.toNat (1:Int)) a0)),(V.bool true)]),[])))
 else
 if(((UInt8.toNat (getD a0 (Int.toNat (0:Int)) 0):Nat):Int)==(34:Int))=true then
 Option.bind (call 91 [(V.str a0)] []) fun z0=>
 some ((V.tup [(V.agg [(V.int .i64 2),(V.str (getS (headD (getT z0.1) V.bot)))]),(V.str (getS (headD (tail (getT z0.1)) V.bot))),(V.bool (getB (headD (tail (tail (getT z0.1))) V.bot)))]),[])
 else
 Option.bind (call 92 [(V.str a0)] []) fun z0=>
 if(getB (headD (tail (tail (getT z0.1))) V.bot))=true then
 some ((V.tup [(V.agg [(V.int .i64 2),(V.str (getS (headD (getT z0.1) V.bot)))]),(V.str (getS (headD (tail (getT z0.1)) V.bot))),(V.bool true)]),[])
 else
 Option.bind (call 93 [(V.str a0)] []) fun z1=>
 chk (decide (0≤(getI z1.1))) (chk (decide ((getI z1.1)≤((length a0:Nat):Int))) (chk (decide (0≤(0:Int))) (chk (decide ((0:Int)≤(getI z1.1))) (chk (decide (0≤(getI z1.1))) (chk (decide ((getI z1.1)≤((length a0:Nat):Int))) (some ((V.tup [(V.agg [(V.int .i64 1),(V.str (drop (Int.toNat (0:Int)) (take (Int.toNat (getI z1.1)) a0)))]),(V.str (drop (Int.toNat (getI z1.1)) a0)),(V.bool (decide ((getI z1.1)>(0:Int))))]),[])))))))))
def A51 (a0:List UInt8):List V:=[V.str a0]
theorem E51 (a0:List UInt8):GO 51 Tryz.f51 (A51 a0) [] call icall again=T51 call a0:=by kernel_rfl
theorem C51 (k:Nat) (a0:List UInt8):aB cfg (k+1) 51 (A51 a0) []=T51 (aB cfg k) a0:=
 (show aB cfg (k+1) 51 (A51 a0) []=GO 51 Tryz.f51 (A51 a0) [] (aB cfg k) (aN cfg (aB cfg k) 20) (RN 51 Tryz.f51 [] (aB cfg k) (aN cfg (aB cfg k) 20) k)by kernel_rfl).trans (E51 _ _ _ a0)
theorem M51 (a0:List UInt8) {r:V×List Ob} (h:Evt (fun k n=>T51 (aB cfg k) a0) r):Ret 51 [V.str a0] [] r:=bX (g:=fun k n=>T51 (aB cfg k) a0) (fun k=>C51 k a0) h
def uK (call:FuncId→Fun) (ag0:List UInt8→List V→Int→Option (V×List Ob)) (s0:List UInt8) (l1:List V) (i2:Int):Option (V×List Ob):=
 if(decide (i2<((length s0:Nat):Int)))=true then
 chk (decide (0≤i2)) (chk (decide (i2<((length s0:Nat):Int))) (if(((UInt8.toNat (getD s0 (Int.toNat i2) 0):Nat):Int)==(34:Int))=true then
 chk (decide (0≤(IntKind.wrap .i64 (i2+(1:Int))))) (chk (decide ((IntKind.wrap .i64 (i2+(1:Int)))≤((length s0:Nat):Int))) (some ((V.tup [(V.str (bytesOf l1)),(V.str (drop (Int.toNat (IntKind.wrap .i64 (i2+(1:Int)))) s0)),(V.bool true)]),[])))
 else
 if(((UInt8.toNat (getD s0 (Int.toNat i2) 0):Nat):Int)==(92:Int))=true then
 Option.bind (if((IntKind.wrap .i64 (i2+(1:Int)))==((length s0:Nat):Int))=false then
 chk (decide (0≤(IntKind.wrap .i64 (i2+(1:Int))))) (chk (decide ((IntKind.wrap .i64 (i2+(1:Int)))<((length s0:Nat):Int))) (if(((UInt8.toNat (getD s0 (Int.toNat (IntKind.wrap .i64 (i2+(1:Int)))) 0):Nat):Int) != (34:Int))=true then
 chk (decide (0≤(IntKind.wrap .i64 (i2+(1:Int))))) (chk (decide ((IntKind.wrap .i64 (i2+(1:Int)))<((length s0:Nat):Int))) (some (((UInt8.toNat (getD s0 (Int.toNat (IntKind.wrap .i64 (i2+(1:Int)))) 0):Nat):Int) != (92:Int))))
 else
 some false))
 else
 some true) fun y0=>
 if y0=true then
 some ((V.tup [(V.str []),(V.str []),(V.bool false)]),[])
 else
 chk (decide (0≤(IntKind.wrap .i64 (i2+(1:Int))))) (chk (decide ((IntKind.wrap .i64 (i2+(1:Int)))<((length s0:Nat):Int))) (chk (cK l1 [(V.int .u8 ((UInt8.toNat (getD s0 (Int.toNat (IntKind.wrap .i64 (i2+(1:Int)))) 0):Nat):Int))] 2) ((ag0 (s0) ((l1++[(V.int .u8 ((UInt8.toNat (getD s0 (Int.toNat (IntKind.wrap .i64 (i2+(1:Int)))) 0):Nat):Int))])) ((IntKind.wrap .i64 ((IntKind.wrap .i64 (i2+(1:Int)))+(1:Int))))))))
 else
 chk (decide (0≤i2)) (chk (decide (i2<((length s0:Nat):Int))) (chk (cK l1 [(V.int .u8 ((UInt8.toNat (getD s0 (Int.toNat i2) 0):Nat):Int))] 2) ((ag0 (s0) ((l1++[(V.int .u8 ((UInt8.toNat (getD s0 (Int.toNat i2) 0):Nat):Int))])) ((IntKind.wrap .i64 (i2+(1:Int))))))))))
 else
 some ((V.tup [(V.str []),(V.str []),(V.bool false)]),[])
def T91 (call:FuncId→Fun) (ag0:List UInt8→List V→Int→Option (V×List Ob)) (a0:List UInt8):Option (V×List Ob):=
 (ag0 (a0) ([]) ((1:Int)))
def A91 (a0:List UInt8):List V:=[V.str a0]
def uL (s0:List UInt8) (l1:List V) (i2:Int):St:=⟨[(V.str s0),V.bot,V.bot,V.bot,V.bot,(V.lst 5 true l1),(V.int IntKind.i64 i2)]++List.replicate 45 V.bot,[]⟩
theorem Gp (s0:List UInt8) (l1:List V) (i2:Int):
 RM 91 Tryz.f91 [] call icall again (bE Tryz.f91 0) (uL s0 l1 i2)=uK call (fun s0 l1 i2=>again (bE Tryz.f91 0) (uL s0 l1 i2)) s0 l1 i2:=by kernel_rfl
theorem E91 (a0:List UInt8):GO 91 Tryz.f91 (A91 a0) [] call icall again=T91 call (fun s0 l1 i2=>again (bE Tryz.f91 0) (uL s0 l1 i2)) a0:=by kernel_rfl
def L91 (call:FuncId→Fun):Nat→(List UInt8→List V→Int→Option (V×List Ob))
 |0=>fun _ _ _=>none
 |n+1=>uK call (L91 call n)
theorem R91 (call:FuncId→Fun) (icall:aO (V×List Ob)):∀n,(∀(s0:List UInt8) (l1:List V) (i2:Int),RN 91 Tryz.f91 [] call icall n (bE Tryz.f91 0) (uL s0 l1 i2)=(L91 call n) s0 l1 i2)
 |0=>fun s0 l1 i2=>rfl
 |n+1=>by
  have ih:=R91 call icall n
  exact fun s0 l1 i2=>(Gp call icall (RN 91 Tryz.f91 [] call icall n) s0 l1 i2).trans (by rw[show(fun s0 l1 i2=>RN 91 Tryz.f91 [] call icall n (bE Tryz.f91 0) (uL s0 l1 i2))=(L91 call n)from(funext fun s0=>funext fun l1=>funext fun i2=>ih s0 l1 i2)];rfl)
theorem C91 (k:Nat) (a0:List UInt8):aB cfg (k+1) 91 (A91 a0) []=T91 (aB cfg k) (L91 (aB cfg k) k) a0:=by
 have ih:=R91 (aB cfg k) (aN cfg (aB cfg k) 20) k
 refine(show aB cfg (k+1) 91 (A91 a0) []=GO 91 Tryz.f91 (A91 a0) [] (aB cfg k) (aN cfg (aB cfg k) 20) (RN 91 Tryz.f91 [] (aB cfg k) (aN cfg (aB cfg k) 20) k)by kernel_rfl).trans ((E91 _ _ _ a0).trans ?_)
 rw[show(fun s0 l1 i2=>RN 91 Tryz.f91 [] (aB cfg k) (aN cfg (aB cfg k) 20) k (bE Tryz.f91 0) (uL s0 l1 i2))=(L91 (aB cfg k) k)from(funext fun s0=>funext fun l1=>funext fun i2=>ih s0 l1 i2)]
theorem M91 (a0:List UInt8) {r:V×List Ob} (h:Evt (fun k n=>T91 (aB cfg k) (L91 (aB cfg k) n) a0) r):Ret 91 [V.str a0] [] r:=bX (g:=fun k n=>T91 (aB cfg k) (L91 (aB cfg k) n) a0) (fun k=>C91 k a0) h
theorem Ek (s0:List UInt8) (l1:List V) (i2:Int) {r:V×List Ob} (h:Evt (fun k n=>uK (aB cfg k) (L91 (aB cfg k) n) s0 l1 i2) r):Evt (fun k n=>(L91 (aB cfg k) n) s0 l1 i2) r:=fC (fun k n=>rfl) h
def T92 (call:FuncId→Fun) (a0:List UInt8):Option (V×List Ob):=
 Option.bind (call 125 [(V.str a0)] []) fun z0=>
 if((getI (headD (getT z0.1) V.bot))==(0:Int))=true then
 some ((V.tup [(V.str []),(V.str []),(V.bool false)]),[])
 else
 chk (decide (0≤(getI (headD (getT z0.1) V.bot)))) (chk (decide ((getI (headD (getT z0.1) V.bot))≤((length a0:Nat):Int))) (Option.bind (call 126 [(V.str (drop (Int.toNat (getI (headD (getT z0.1) V.bot))) a0)),(V.str [13,10])] []) fun z1=>
 Option.bind (if(!(getB (headD (tail (getT z1.1)) V.bot)))=false then
 some (decide (((length (getS (headD (getT z1.1) V.bot)):Nat):Int)<(getI (headD (tail (getT z0.1)) V.bot))))
 else
 some true) fun y2=>
 if y2=true then
 some ((V.tup [(V.str []),(V.str []),(V.bool false)]),[])
 else
 chk (decide (0≤(getI (headD (tail (getT z0.1)) V.bot)))) (chk (decide ((getI (headD (tail (getT z0.1)) V.bot))≤((length (getS (headD (getT z1.1) V.bot)):Nat):Int))) (chk (decide (0≤(0:Int))) (chk (decide ((0:Int)≤(getI (headD (tail (getT z0.1)) V.bot)))) (chk (decide (0≤(getI (headD (tail (getT z0.1)) V.bot)))) (chk (decide ((getI (headD (tail (getT z0.1)) V.bot))≤((length (getS (headD (getT z1.1) V.bot)):Nat):Int))) (some ((V.tup [(V.str (drop (Int.toNat (0:Int)) (take (Int.toNat (getI (headD (tail (getT z0.1)) V.bot))) (getS (headD (getT z1.1) V.bot))))),(V.str (drop (Int.toNat (getI (headD (tail (getT z0.1)) V.bot))) (getS (headD (getT z1.1) V.bot)))),(V.bool true)]),[])))))))))
def A92 (a0:List UInt8):List V:=[V.str a0]
theorem E92 (a0:List UInt8):GO 92 Tryz.f92 (A92 a0) [] call icall again=T92 call a0:=by kernel_rfl
theorem C92 (k:Nat) (a0:List UInt8):aB cfg (k+1) 92 (A92 a0) []=T92 (aB cfg k) a0:=
 (show aB cfg (k+1) 92 (A92 a0) []=GO 92 Tryz.f92 (A92 a0) [] (aB cfg k) (aN cfg (aB cfg k) 20) (RN 92 Tryz.f92 [] (aB cfg k) (aN cfg (aB cfg k) 20) k)by kernel_rfl).trans (E92 _ _ _ a0)
theorem M92 (a0:List UInt8) {r:V×List Ob} (h:Evt (fun k n=>T92 (aB cfg k) a0) r):Ret 92 [V.str a0] [] r:=bX (g:=fun k n=>T92 (aB cfg k) a0) (fun k=>C92 k a0) h
def Bb (call:FuncId→Fun) (a0:List UInt8):Option (V×List Ob):=
 Option.bind (call 147 [(V.str a0),(V.str [126])] []) fun z0=>
 Option.bind (if(sEq (getS z0.1) [])=false then
 chk (decide (0≤(0:Int))) (chk (decide ((0:Int)<((length (getS z0.1):Nat):Int))) (some (((UInt8.toNat (getD (getS z0.1) (Int.toNat (0:Int)) 0):Nat):Int) != (123:Int))))
 else
 some true) fun y1=>
 if y1=true then
 some ((V.tup [(V.int .i64 0),(V.int .i64 0),(V.bool false)]),[])
 else
 Option.bind (call 89 [(V.str (getS z0.1)),(V.int .u8 125)] []) fun z2=>
 if(decide ((getI z2.1)<(0:Int)))=true then
 some ((V.tup [(V.int .i64 0),(V.int .i64 0),(V.bool false)]),[])
 else
 chk (decide (0≤(getI z2.1))) (chk (decide ((getI z2.1)≤((length (getS z0.1):Nat):Int))) (chk (decide (0≤(1:Int))) (chk (decide ((1:Int)≤(getI z2.1))) (Option.bind (call 148 [(V.str (drop (Int.toNat (1:Int)) (take (Int.toNat (getI z2.1)) (getS z0.1)))),(V.str [43])] []) fun z3=>
 Option.bind (call 149 [(V.str (getS (headD (getT z3.1) V.bot)))] []) fun z4=>
 if(!(getB (headD (tail (getT z4.1)) V.bot)))=true then
 some ((V.tup [(V.int .i64 0),(V.int .i64 0),(V.bool false)]),[])
 else
 some ((V.tup [(V.int .i64 (IntKind.wrap .i64 ((IntKind.wrap .i64 ((IntKind.wrap .i64 (((length a0:Nat):Int) - ((length (getS z0.1):Nat):Int)))+(getI z2.1)))+(1:Int)))),(V.int .i64 (getI (headD (getT z4.1) V.bot))),(V.bool (!(getB (headD (tail (getT z3.1)) V.bot))))]),[])))))
def Dk (a0:List UInt8):List V:=[V.str a0]
theorem GR (a0:List UInt8):GO 125 Tryz.f125 (Dk a0) [] call icall again=Bb call a0:=by kernel_rfl
theorem GT (k:Nat) (a0:List UInt8):aB cfg (k+1) 125 (Dk a0) []=Bb (aB cfg k) a0:=
 (show aB cfg (k+1) 125 (Dk a0) []=GO 125 Tryz.f125 (Dk a0) [] (aB cfg k) (aN cfg (aB cfg k) 20) (RN 125 Tryz.f125 [] (aB cfg k) (aN cfg (aB cfg k) 20) k)by kernel_rfl).trans (GR _ _ _ a0)
theorem Gq (a0:List UInt8) {r:V×List Ob} (h:Evt (fun k n=>Bb (aB cfg k) a0) r):Ret 125 [V.str a0] [] r:=bX (g:=fun k n=>Bb (aB cfg k) a0) (fun k=>GT k a0) h
def uM (call:FuncId→Fun) (ag0:List UInt8→Int→Option (V×List Ob)) (s0:List UInt8) (i1:Int):Option (V×List Ob):=
 if(decide (i1<((length s0:Nat):Int)))=true then
 chk (decide (0≤i1)) (chk (decide (i1<((length s0:Nat):Int))) (Option.bind (if(decide (((UInt8.toNat (getD s0 (Int.toNat i1) 0):Nat):Int)≤(32:Int)))=false then
 if(decide (((UInt8.toNat (getD s0 (Int.toNat i1) 0):Nat):Int)≥(127:Int)))=false then
 if(((UInt8.toNat (getD s0 (Int.toNat i1) 0):Nat):Int)==(40:Int))=false then
 if(((UInt8.toNat (getD s0 (Int.toNat i1) 0):Nat):Int)==(41:Int))=false then
 some (((UInt8.toNat (getD s0 (Int.toNat i1) 0):Nat):Int)==(34:Int))
 else
 some true
 else
 some true
 else
 some true
 else
 some true) fun y0=>
 if y0=true then
 some ((V.int .i64 i1),[])
 else
 Option.bind (if(((UInt8.toNat (getD s0 (Int.toNat i1) 0):Nat):Int)==(123:Int))=false then
 some (((UInt8.toNat (getD s0 (Int.toNat i1) 0):Nat):Int)==(126:Int))
 else
 some true) fun y1=>
 if y1=true then
 chk (decide (0≤i1)) (chk (decide (i1≤((length s0:Nat):Int))) (Option.bind (call 92 [(V.str (drop (Int.toNat i1) s0))] []) fun z2=>
 if(getB (headD (tail (tail (getT z2.1))) V.bot))=true then
 some ((V.int .i64 i1),[])
 else
 (ag0 (s0) ((IntKind.wrap .i64 (i1+(1:Int)))))))
 else
 if(((UInt8.toNat (getD s0 (Int.toNat i1) 0):Nat):Int)==(91:Int))=true then
 chk (decide (0≤i1)) (chk (decide (i1≤((length s0:Nat):Int))) (Option.bind (call 127 [(V.str (drop (Int.toNat i1) s0))] []) fun z2=>
 if((getI z2.1)==(0:Int))=true then
 some ((V.int .i64 0),[])
 else
 (ag0 (s0) ((IntKind.wrap .i64 (i1+(getI z2.1)))))))
 else
 (ag0 (s0) ((IntKind.wrap .i64 (i1+(1:Int)))))))
 else
 some ((V.int .i64 i1),[])
def T93 (call:FuncId→Fun) (ag0:List UInt8→Int→Option (V×List Ob)) (a0:List UInt8):Option (V×List Ob):=
 (ag0 (a0) ((0:Int)))
def A93 (a0:List UInt8):List V:=[V.str a0]
def uN (s0:List UInt8) (i1:Int):St:=⟨[(V.str s0),V.bot,V.bot,(V.int IntKind.i64 i1)]++List.replicate 64 V.bot,[]⟩
theorem Gr (s0:List UInt8) (i1:Int):
 RM 93 Tryz.f93 [] call icall again (bE Tryz.f93 0) (uN s0 i1)=uM call (fun s0 i1=>again (bE Tryz.f93 0) (uN s0 i1)) s0 i1:=by kernel_rfl
theorem E93 (a0:List UInt8):GO 93 Tryz.f93 (A93 a0) [] call icall again=T93 call (fun s0 i1=>again (bE Tryz.f93 0) (uN s0 i1)) a0:=by kernel_rfl
def L93 (call:FuncId→Fun):Nat→(List UInt8→Int→Option (V×List Ob))
 |0=>fun _ _=>none
 |n+1=>uM call (L93 call n)
theorem R93 (call:FuncId→Fun) (icall:aO (V×List Ob)):∀n,(∀(s0:List UInt8) (i1:Int),RN 93 Tryz.f93 [] call icall n (bE Tryz.f93 0) (uN s0 i1)=(L93 call n) s0 i1)
 |0=>fun s0 i1=>rfl
 |n+1=>by
  have ih:=R93 call icall n
  exact fun s0 i1=>(Gr call icall (RN 93 Tryz.f93 [] call icall n) s0 i1).trans (by rw[show(fun s0 i1=>RN 93 Tryz.f93 [] call icall n (bE Tryz.f93 0) (uN s0 i1))=(L93 call n)from(funext fun s0=>funext fun i1=>ih s0 i1)];rfl)
theorem C93 (k:Nat) (a0:List UInt8):aB cfg (k+1) 93 (A93 a0) []=T93 (aB cfg k) (L93 (aB cfg k) k) a0:=by
 have ih:=R93 (aB cfg k) (aN cfg (aB cfg k) 20) k
 refine(show aB cfg (k+1) 93 (A93 a0) []=GO 93 Tryz.f93 (A93 a0) [] (aB cfg k) (aN cfg (aB cfg k) 20) (RN 93 Tryz.f93 [] (aB cfg k) (aN cfg (aB cfg k) 20) k)by kernel_rfl).trans ((E93 _ _ _ a0).trans ?_)
 rw[show(fun s0 i1=>RN 93 Tryz.f93 [] (aB cfg k) (aN cfg (aB cfg k) 20) k (bE Tryz.f93 0) (uN s0 i1))=(L93 (aB cfg k) k)from(funext fun s0=>funext fun i1=>ih s0 i1)]
theorem M93 (a0:List UInt8) {r:V×List Ob} (h:Evt (fun k n=>T93 (aB cfg k) (L93 (aB cfg k) n) a0) r):Ret 93 [V.str a0] [] r:=bX (g:=fun k n=>T93 (aB cfg k) (L93 (aB cfg k) n) a0) (fun k=>C93 k a0) h
theorem El (s0:List UInt8) (i1:Int) {r:V×List Ob} (h:Evt (fun k n=>uM (aB cfg k) (L93 (aB cfg k) n) s0 i1) r):Evt (fun k n=>(L93 (aB cfg k) n) s0 i1) r:=fC (fun k n=>rfl) h
def Bc (call:FuncId→Fun) (a0:List UInt8) (a1:List UInt8):Option (V×List Ob):=
 Option.bind (call 165 [(V.str a0),(V.str a1)] []) fun z0=>
 if(getB z0.1)=true then
 chk (decide (0≤((length a1:Nat):Int))) (chk (decide (((length a1:Nat):Int)≤((length a0:Nat):Int))) (some ((V.str (drop (Int.toNat ((length a1:Nat):Int)) a0)),[])))
 else
 some ((V.str a0),[])
def Dm (a0:List UInt8) (a1:List UInt8):List V:=[V.str a0,V.str a1]
theorem GU (a0:List UInt8) (a1:List UInt8):GO 163 Tryz.f163 (Dm a0 a1) [] call icall again=Bc call a0 a1:=by kernel_rfl
theorem GV (k:Nat) (a0:List UInt8) (a1:List UInt8):aB cfg (k+1) 163 (Dm a0 a1) []=Bc (aB cfg k) a0 a1:=
 (show aB cfg (k+1) 163 (Dm a0 a1) []=GO 163 Tryz.f163 (Dm a0 a1) [] (aB cfg k) (aN cfg (aB cfg k) 20) (RN 163 Tryz.f163 [] (aB cfg k) (aN cfg (aB cfg k) 20) k)by kernel_rfl).trans (GU _ _ _ a0 a1)
theorem Gs (a0:List UInt8) (a1:List UInt8) {r:V×List Ob} (h:Evt (fun k n=>Bc (aB cfg k) a0 a1) r):Ret 163 [V.str a0,V.str a1] [] r:=bX (g:=fun k n=>Bc (aB cfg k) a0 a1) (fun k=>GV k a0 a1) h
def Bd (call:FuncId→Fun) (a0:List UInt8) (a1:List UInt8):Option (V×List Ob):=
 Option.bind (call 163 [(V.str a0),(V.str a1)] []) fun z0=>
 some ((V.str (getS z0.1)),[])
def Dn (a0:List UInt8) (a1:List UInt8):List V:=[V.str a0,V.str a1]
theorem GW (a0:List UInt8) (a1:List UInt8):GO 147 Tryz.f147 (Dn a0 a1) [] call icall again=Bd call a0 a1:=by kernel_rfl
theorem GX (k:Nat) (a0:List UInt8) (a1:List UInt8):aB cfg (k+1) 147 (Dn a0 a1) []=Bd (aB cfg k) a0 a1:=
 (show aB cfg (k+1) 147 (Dn a0 a1) []=GO 147 Tryz.f147 (Dn a0 a1) [] (aB cfg k) (aN cfg (aB cfg k) 20) (RN 147 Tryz.f147 [] (aB cfg k) (aN cfg (aB cfg k) 20) k)by kernel_rfl).trans (GW _ _ _ a0 a1)
theorem Gt (a0:List UInt8) (a1:List UInt8) {r:V×List Ob} (h:Evt (fun k n=>Bd (aB cfg k) a0 a1) r):Ret 147 [V.str a0,V.str a1] [] r:=bX (g:=fun k n=>Bd (aB cfg k) a0 a1) (fun k=>GX k a0 a1) h
def Cl (call:FuncId→Fun) (a0:List UInt8) (a1:List UInt8):Option (V×List Ob):=
 Option.bind (call 164 [(V.str a0),(V.str a1)] []) fun z0=>
 some ((V.tup [(V.str (getS (headD (getT z0.1) V.bot))),(V.bool (getB (headD (tail (getT z0.1)) V.bot)))]),[])
def Do (a0:List UInt8) (a1:List UInt8):List V:=[V.str a0,V.str a1]
theorem GY (a0:List UInt8) (a1:List UInt8):GO 148 Tryz.f148 (Do a0 a1) [] call icall again=Cl call a0 a1:=by kernel_rfl
theorem GZ (k:Nat) (a0:List UInt8) (a1:List UInt8):aB cfg (k+1) 148 (Do a0 a1) []=Cl (aB cfg k) a0 a1:=
 (show aB cfg (k+1) 148 (Do a0 a1) []=GO 148 Tryz.f148 (Do a0 a1) [] (aB cfg k) (aN cfg (aB cfg k) 20) (RN 148 Tryz.f148 [] (aB cfg k) (aN cfg (aB cfg k) 20) k)by kernel_rfl).trans (GY _ _ _ a0 a1)
theorem G3 (a0:List UInt8) (a1:List UInt8) {r:V×List Ob} (h:Evt (fun k n=>Cl (aB cfg k) a0 a1) r):Ret 148 [V.str a0,V.str a1] [] r:=bX (g:=fun k n=>Cl (aB cfg k) a0 a1) (fun k=>GZ k a0 a1) h
def Cm (call:FuncId→Fun) (a0:List UInt8) (a1:List UInt8):Option (V×List Ob):=
 Option.bind (call 171 [(V.str a0),(V.str a1)] []) fun z0=>
 if(!(getB z0.1))=true then
 some ((V.tup [(V.str a0),(V.bool false)]),[])
 else
 chk (decide (0≤(IntKind.wrap .i64 (((length a0:Nat):Int) - ((length a1:Nat):Int))))) (chk (decide ((IntKind.wrap .i64 (((length a0:Nat):Int) - ((length a1:Nat):Int)))≤((length a0:Nat):Int))) (chk (decide (0≤(0:Int))) (chk (decide ((0:Int)≤(IntKind.wrap .i64 (((length a0:Nat):Int) - ((length a1:Nat):Int))))) (some ((V.tup [(V.str (drop (Int.toNat (0:Int)) (take (Int.toNat (IntKind.wrap .i64 (((length a0:Nat):Int) - ((length a1:Nat):Int)))) a0))),(V.bool true)]),[])))))
def Dp (a0:List UInt8) (a1:List UInt8):List V:=[V.str a0,V.str a1]
theorem G4 (a0:List UInt8) (a1:List UInt8):GO 164 Tryz.f164 (Dp a0 a1) [] call icall again=Cm call a0 a1:=by kernel_rfl
theorem G5 (k:Nat) (a0:List UInt8) (a1:List UInt8):aB cfg (k+1) 164 (Dp a0 a1) []=Cm (aB cfg k) a0 a1:=
 (show aB cfg (k+1) 164 (Dp a0 a1) []=GO 164 Tryz.f164 (Dp a0 a1) [] (aB cfg k) (aN cfg (aB cfg k) 20) (RN 164 Tryz.f164 [] (aB cfg k) (aN cfg (aB cfg k) 20) k)by kernel_rfl).trans (G4 _ _ _ a0 a1)
theorem G6 (a0:List UInt8) (a1:List UInt8) {r:V×List Ob} (h:Evt (fun k n=>Cm (aB cfg k) a0 a1) r):Ret 164 [V.str a0,V.str a1] [] r:=bX (g:=fun k n=>Cm (aB cfg k) a0 a1) (fun k=>G5 k a0 a1) h
def Cn (call:FuncId→Fun) (a0:List UInt8) (a1:List UInt8):Option (V×List Ob):=
 Option.bind (call 150 [(V.str a0),(V.str a1)] []) fun z0=>
 some ((V.tup [(V.str (getS (headD (getT z0.1) V.bot))),(V.bool (getB (headD (tail (getT z0.1)) V.bot)))]),[])
def Dq (a0:List UInt8) (a1:List UInt8):List V:=[V.str a0,V.str a1]
theorem G7 (a0:List UInt8) (a1:List UInt8):GO 126 Tryz.f126 (Dq a0 a1) [] call icall again=Cn call a0 a1:=by kernel_rfl
theorem G8 (k:Nat) (a0:List UInt8) (a1:List UInt8):aB cfg (k+1) 126 (Dq a0 a1) []=Cn (aB cfg k) a0 a1:=
 (show aB cfg (k+1) 126 (Dq a0 a1) []=GO 126 Tryz.f126 (Dq a0 a1) [] (aB cfg k) (aN cfg (aB cfg k) 20) (RN 126 Tryz.f126 [] (aB cfg k) (aN cfg (aB cfg k) 20) k)by kernel_rfl).trans (G7 _ _ _ a0 a1)
theorem G9 (a0:List UInt8) (a1:List UInt8) {r:V×List Ob} (h:Evt (fun k n=>Cn (aB cfg k) a0 a1) r):Ret 126 [V.str a0,V.str a1] [] r:=bX (g:=fun k n=>Cn (aB cfg k) a0 a1) (fun k=>G8 k a0 a1) h
def Co (call:FuncId→Fun) (a0:List UInt8) (a1:List UInt8):Option (V×List Ob):=
 Option.bind (call 165 [(V.str a0),(V.str a1)] []) fun z0=>
 if(!(getB z0.1))=true then
 some ((V.tup [(V.str a0),(V.bool false)]),[])
 else
 chk (decide (0≤((length a1:Nat):Int))) (chk (decide (((length a1:Nat):Int)≤((length a0:Nat):Int))) (some ((V.tup [(V.str (drop (Int.toNat ((length a1:Nat):Int)) a0)),(V.bool true)]),[])))
def Ds (a0:List UInt8) (a1:List UInt8):List V:=[V.str a0,V.str a1]
theorem Ha (a0:List UInt8) (a1:List UInt8):GO 150 Tryz.f150 (Ds a0 a1) [] call icall again=Co call a0 a1:=by kernel_rfl
theorem Hb (k:Nat) (a0:List UInt8) (a1:List UInt8):aB cfg (k+1) 150 (Ds a0 a1) []=Co (aB cfg k) a0 a1:=
 (show aB cfg (k+1) 150 (Ds a0 a1) []=GO 150 Tryz.f150 (Ds a0 a1) [] (aB cfg k) (aN cfg (aB cfg k) 20) (RN 150 Tryz.f150 [] (aB cfg k) (aN cfg (aB cfg k) 20) k)by kernel_rfl).trans (Ha _ _ _ a0 a1)
theorem Hd (a0:List UInt8) (a1:List UInt8) {r:V×List Ob} (h:Evt (fun k n=>Co (aB cfg k) a0 a1) r):Ret 150 [V.str a0,V.str a1] [] r:=bX (g:=fun k n=>Co (aB cfg k) a0 a1) (fun k=>Hb k a0 a1) h
def Cp (call:FuncId→Fun) (a0:List UInt8) (a1:List UInt8):Option (V×List Ob):=
 Option.bind (if(decide (((length a0:Nat):Int)≥((length a1:Nat):Int)))=true then
 chk (decide (0≤((length a1:Nat):Int))) (chk (decide (((length a1:Nat):Int)≤((length a0:Nat):Int))) (chk (decide (0≤(0:Int))) (chk (decide ((0:Int)≤((length a1:Nat):Int))) (some (sEq (drop (Int.toNat (0:Int)) (take (Int.toNat ((length a1:Nat):Int)) a0)) a1)))))
 else
 some false) fun y0=>
 some ((V.bool y0),[])
def Dt (a0:List UInt8) (a1:List UInt8):List V:=[V.str a0,V.str a1]
theorem He (a0:List UInt8) (a1:List UInt8):GO 165 Tryz.f165 (Dt a0 a1) [] call icall again=Cp call a0 a1:=by kernel_rfl
theorem Hf (k:Nat) (a0:List UInt8) (a1:List UInt8):aB cfg (k+1) 165 (Dt a0 a1) []=Cp (aB cfg k) a0 a1:=
 (show aB cfg (k+1) 165 (Dt a0 a1) []=GO 165 Tryz.f165 (Dt a0 a1) [] (aB cfg k) (aN cfg (aB cfg k) 20) (RN 165 Tryz.f165 [] (aB cfg k) (aN cfg (aB cfg k) 20) k)by kernel_rfl).trans (He _ _ _ a0 a1)
theorem Hg (a0:List UInt8) (a1:List UInt8) {r:V×List Ob} (h:Evt (fun k n=>Cp (aB cfg k) a0 a1) r):Ret 165 [V.str a0,V.str a1] [] r:=bX (g:=fun k n=>Cp (aB cfg k) a0 a1) (fun k=>Hf k a0 a1) h
def Cq (call:FuncId→Fun) (a0:List UInt8) (a1:List UInt8):Option (V×List Ob):=
 Option.bind (if(decide (((length a0:Nat):Int)≥((length a1:Nat):Int)))=true then
 chk (decide (0≤(IntKind.wrap .i64 (((length a0:Nat):Int) - ((length a1:Nat):Int))))) (chk (decide ((IntKind.wrap .i64 (((length a0:Nat):Int) - ((length a1:Nat):Int)))≤((length a0:Nat):Int))) (some (sEq (drop (Int.toNat (IntKind.wrap .i64 (((length a0:Nat):Int) - ((length a1:Nat):Int)))) a0) a1)))
 else
 some false) fun y0=>
 some ((V.bool y0),[])
def Du (a0:List UInt8) (a1:List UInt8):List V:=[V.str a0,V.str a1]
theorem Hh (a0:List UInt8) (a1:List UInt8):GO 171 Tryz.f171 (Du a0 a1) [] call icall again=Cq call a0 a1:=by kernel_rfl
theorem Hi (k:Nat) (a0:List UInt8) (a1:List UInt8):aB cfg (k+1) 171 (Du a0 a1) []=Cq (aB cfg k) a0 a1:=
 (show aB cfg (k+1) 171 (Du a0 a1) []=GO 171 Tryz.f171 (Du a0 a1) [] (aB cfg k) (aN cfg (aB cfg k) 20) (RN 171 Tryz.f171 [] (aB cfg k) (aN cfg (aB cfg k) 20) k)by kernel_rfl).trans (Hh _ _ _ a0 a1)
theorem Hj (a0:List UInt8) (a1:List UInt8) {r:V×List Ob} (h:Evt (fun k n=>Cq (aB cfg k) a0 a1) r):Ret 171 [V.str a0,V.str a1] [] r:=bX (g:=fun k n=>Cq (aB cfg k) a0 a1) (fun k=>Hi k a0 a1) h
def sO (call:FuncId→Fun) (ag0:List UInt8→Int→Int→Int→Option (V×List Ob)) (s0:List UInt8) (i1:Int) (i2:Int) (i3:Int):Option (V×List Ob):=
 if(decide (i3<i2))=true then
 Option.bind (chk (decide (0≤i3)) (chk (decide (i3<((length s0:Nat):Int))) (if(decide (((UInt8.toNat (getD s0 (Int.toNat i3) 0):Nat):Int)<(48:Int)))=false then
 chk (decide (0≤i3)) (chk (decide (i3<((length s0:Nat):Int))) (some (decide (((UInt8.toNat (getD s0 (Int.toNat i3) 0):Nat):Int)>(57:Int)))))
 else
 some true))) fun y0=>
 if y0=true then
 some ((V.tup [(V.int .i64 0),(V.bool false)]),[])
 else
 chk (decide (0≤i3)) (chk (decide (i3<((length s0:Nat):Int))) ((ag0 (s0) ((IntKind.wrap .i64 ((IntKind.wrap .i64 ((10:Int)*i1))+(IntKind.wrap .i64 (IntKind.wrap .u8 (((UInt8.toNat (getD s0 (Int.toNat i3) 0):Nat):Int) - (48:Int))))))) (i2) ((IntKind.wrap .i64 (i3+(1:Int)))))))
 else
 if(decide (i1>(4294967295:Int)))=true then
 some ((V.tup [(V.int .i64 0),(V.bool false)]),[])
 else
 some ((V.tup [(V.int .i64 i1),(V.bool true)]),[])
def Cr (call:FuncId→Fun) (ag0:List UInt8→Int→Int→Int→Option (V×List Ob)) (a0:List UInt8):Option (V×List Ob):=
 Option.bind (if(decide (((length a0:Nat):Int)<(1:Int)))=false then
 if(decide (((length a0:Nat):Int)>(10:Int)))=false then
 if(decide (((length a0:Nat):Int)>(1:Int)))=true then
 chk (decide (0≤(0:Int))) (chk (decide ((0:Int)<((length a0:Nat):Int))) (some (((UInt8.toNat (getD a0 (Int.toNat (0:Int)) 0):Nat):Int)==(48:Int))))
 else
 some false
 else
 some true
 else
 some true) fun y0=>
 if y0=true then
 some ((V.tup [(V.int .i64 0),(V.bool false)]),[])
 else
 (ag0 (a0) ((0:Int)) (((length a0:Nat):Int)) ((0:Int)))
def Dv (a0:List UInt8):List V:=[V.str a0]
def pU (s0:List UInt8) (i1:Int) (i2:Int) (i3:Int):St:=⟨[(V.str s0),V.bot,V.bot,V.bot,(V.int IntKind.i64 i1),V.bot,V.bot,V.bot,V.bot,V.bot,V.bot,V.bot,V.bot,V.bot,V.bot,V.bot,V.bot,V.bot,V.bot,V.bot,V.bot,V.bot,V.bot,V.bot,V.bot,(V.int IntKind.i64 i2),(V.int IntKind.i64 i3)]++List.replicate 24 V.bot,[]⟩
theorem EV (s0:List UInt8) (i1:Int) (i2:Int) (i3:Int):
 RM 149 Tryz.f149 [] call icall again (bE Tryz.f149 0) (pU s0 i1 i2 i3)=sO call (fun s0 i1 i2 i3=>again (bE Tryz.f149 0) (pU s0 i1 i2 i3)) s0 i1 i2 i3:=by kernel_rfl
theorem Hk (a0:List UInt8):GO 149 Tryz.f149 (Dv a0) [] call icall again=Cr call (fun s0 i1 i2 i3=>again (bE Tryz.f149 0) (pU s0 i1 i2 i3)) a0:=by kernel_rfl
def sY (call:FuncId→Fun):Nat→(List UInt8→Int→Int→Int→Option (V×List Ob))
 |0=>fun _ _ _ _=>none
 |n+1=>sO call (sY call n)
theorem Gu (call:FuncId→Fun) (icall:aO (V×List Ob)):∀n,(∀(s0:List UInt8) (i1:Int) (i2:Int) (i3:Int),RN 149 Tryz.f149 [] call icall n (bE Tryz.f149 0) (pU s0 i1 i2 i3)=(sY call n) s0 i1 i2 i3)
 |0=>fun s0 i1 i2 i3=>rfl
 |n+1=>by
  have ih:=Gu call icall n
  exact fun s0 i1 i2 i3=>(EV call icall (RN 149 Tryz.f149 [] call icall n) s0 i1 i2 i3).trans (by rw[show(fun s0 i1 i2 i3=>RN 149 Tryz.f149 [] call icall n (bE Tryz.f149 0) (pU s0 i1 i2 i3))=(sY call n)from(funext fun s0=>funext fun i1=>funext fun i2=>funext fun i3=>ih s0 i1 i2 i3)];rfl)
theorem Hl (k:Nat) (a0:List UInt8):aB cfg (k+1) 149 (Dv a0) []=Cr (aB cfg k) (sY (aB cfg k) k) a0:=by
 have ih:=Gu (aB cfg k) (aN cfg (aB cfg k) 20) k
 refine(show aB cfg (k+1) 149 (Dv a0) []=GO 149 Tryz.f149 (Dv a0) [] (aB cfg k) (aN cfg (aB cfg k) 20) (RN 149 Tryz.f149 [] (aB cfg k) (aN cfg (aB cfg k) 20) k)by kernel_rfl).trans ((Hk _ _ _ a0).trans ?_)
 rw[show(fun s0 i1 i2 i3=>RN 149 Tryz.f149 [] (aB cfg k) (aN cfg (aB cfg k) 20) k (bE Tryz.f149 0) (pU s0 i1 i2 i3))=(sY (aB cfg k) k)from(funext fun s0=>funext fun i1=>funext fun i2=>funext fun i3=>ih s0 i1 i2 i3)]
theorem Hm (a0:List UInt8) {r:V×List Ob} (h:Evt (fun k n=>Cr (aB cfg k) (sY (aB cfg k) n) a0) r):Ret 149 [V.str a0] [] r:=bX (g:=fun k n=>Cr (aB cfg k) (sY (aB cfg k) n) a0) (fun k=>Hl k a0) h
theorem Cs (s0:List UInt8) (i1:Int) (i2:Int) (i3:Int) {r:V×List Ob} (h:Evt (fun k n=>sO (aB cfg k) (sY (aB cfg k) n) s0 i1 i2 i3) r):Evt (fun k n=>(sY (aB cfg k) n) s0 i1 i2 i3) r:=fC (fun k n=>rfl) h
end Go.Proofs.YtdoaoaicdimbeaaGreatDoor
end
section
namespace Go.Proofs.YtdoaoaicdimbeaaGreatDoor
open Go.Ev Go
abbrev Tkn:=Nat×Bs
def tkV (t:Tkn):V:= .agg [.int .i64 (t.1:Nat), .str t.2]
inductive Sq:Nat→List Tkn→Prop
 |nil:Sq 0 []
 |leaf {k:Nat} {ts:List Tkn} (n:Nat) (s:Bs) (h:n=1∨n=2) (hs:Sq k ts):Sq (k+1) ((n,s)::ts)
 |space {k:Nat} {ts:List Tkn} (hs:Sq k ts):Sq k ((5,[])::ts)
 |grp {a k:Nat} {us ts:List Tkn} (hu:Sq a us) (hs:Sq k ts):Sq (k+1) ((3,[])::(us++(4,[])::ts))
theorem EW {a b:Nat} {us ts:List Tkn} (h:Sq a us) (ht:Sq b ts):Sq (a+b) (us++ts):=by
 induction h with
 |nil=>simpa using ht
 |leaf n s hn _ ih=>rw[Nat.add_right_comm];exact .leaf n s hn ih
 |space _ ih=>exact .space ih
 |grp hu _ _ ih=>
  rw[Nat.add_right_comm,List.cons_append,List.append_assoc]
  exact .grp hu ih
def dn (d n:Nat):Option Nat:=if n=3 then some (d+1)else if n=4 then(if d=0 then none else some (d - 1))else some d
def run:Nat→Nat→List Tkn→Option (Nat×Nat)
 |d,p,[]=>some (d,p)
 |d,p,t::ts=>match dn d t.1 with
  |none=>none
  |some e=>if e=0∧ts≠[]then none else run e (p+if d=1∧(t.1=1∨t.1=2∨t.1=3)then 1 else 0) ts
theorem EX {k:Nat} {us:List Tkn} (h:Sq k us):∀(d p:Nat) (ts:List Tkn),run (d+1) p (us++ts)=run (d+1) (p+if d=0 then k else 0) ts:=by
 induction h with
 |nil=>intro d p ts;simp
 |leaf n s hn _ ih=>
  intro d p ts
  have e:dn (d+1) n=some (d+1):=by rcases hn with rfl|rfl<;>rfl
  have hn3:n=1∨n=2∨n=3:=by omega
  rw[List.cons_append,run]
  simp only[e]
  rw[if_neg (by omega),ih]
  by_cases hd:d=0<;>simp[hd,hn3]<;>congr 1<;>omega
 |space _ ih=>
  intro d p ts
  have e:dn (d+1) 5=some (d+1):=rfl
  rw[List.cons_append,run]
  simp only[e]
  rw[if_neg (by omega),ih]
  simp
 |grp hu _ ihu ih=>
  intro d p ts
  have e:dn (d+1) 3=some (d+1+1):=rfl
  have e4:dn (d+1+1) 4=some (d+1):=rfl
  rw[List.cons_append,run]
  simp only[e]
  rw[if_neg (by omega),List.append_assoc,ihu,List.cons_append,run]
  simp only[e4]
  rw[if_neg (by omega),ih]
  by_cases hd:d=0<;>simp[hd]<;>congr 1<;>omega
theorem Dw {k:Nat} {us:List Tkn} (h:Sq k us):run 0 0 ((3,[])::(us++[(4,[])]))=some (0,k):=by
 have e:dn 0 3=some (0+1):=rfl
 have e4:dn (0+1) 4=some 0:=rfl
 rw[run]
 simp only[e]
 rw[if_neg (by omega),EX h,run]
 simp only[e4]
 rw[if_neg (by simp),run]
 simp
def pV (s:Bs) (t:Tkn) (r:Bs):Prop:=Ret 51 [.str s] [] (.tup [tkV t, .str r, .bool true],[])
inductive Tks:Bs→List Tkn→Prop
 |nil:Tks [] []
 |cons {s r:Bs} {t:Tkn} {ts:List Tkn} (h0:s≠[]) (h:pV s t r) (hr:Tks r ts):Tks s (t::ts)
def Dl (r:Bs):Prop:=r=[]∨∃c q,r=c::q∧(c=32∨c=40∨c=41)
theorem Dx {c:UInt8} (q:Bs) (h:c=32∨c=40∨c=41):Dl (c::q):=Or.inr ⟨c,q,rfl,h⟩
def Lex (x:Bs) (ts:List Tkn):Prop:=∀(r:Bs) (us:List Tkn),Dl r→x.length+r.length≤100000000000000→Tks r us→Tks (x++r) (ts++us)
theorem Dy:Lex [] []:=fun _ _ _ _ h=>h
theorem Dz {x y:Bs} {ts us:List Tkn} (hx:Lex x ts) (hy:Lex y us) (hd:∀r,Dl r→Dl (y++r)):Lex (x++y) (ts++us):=by
 intro r vs hr hl h
 rw[List.length_append]at hl
 rw[List.append_assoc,List.append_assoc]
 exact hx _ _ (hd r hr) (by rw[List.length_append];omega) (hy r vs hr (by omega) h)
theorem qU {x:Bs} {t:Tkn} (h0:x≠[]) (h:∀r,Dl r→x.length+r.length≤100000000000000→pV (x++r) t r):Lex x [t]:=
 fun r _ hr hl hs=> .cons (by simp[h0]) (h r hr hl) hs
theorem jU (c:UInt8) (n:Nat) (h:(c=40∧n=3)∨(c=41∧n=4)∨(c=32∧n=5)) (r:Bs):pV (c::r) (n,[]) r:=by
 refine M51 (c::r) ?_
 have h1:((0:Int)<((List.length (c::r):Nat):Int)):=by rw[List.length_cons];omega
 have h2:((1:Int)≤((List.length (c::r):Nat):Int)):=by rw[List.length_cons];omega
 have g:List.getD (c::r) (Int.toNat 0) 0=c:=rfl
 have g1:List.drop (Int.toNat 1) (c::r)=r:=rfl
 simp only[T51,aW h1,aW h2,g,g1,aW (show(0:Int)≤0 by omega),aW (show(0:Int)≤1 by omega)]
 rcases h with⟨rfl,rfl⟩|⟨rfl,rfl⟩|⟨rfl,rfl⟩
 ·exact aM _
 ·exact aM _
 ·exact aM _
def Tx (k n:Nat) (x:Bs):Prop:=∃ts,Sq k ts∧ts.length≤n∧Lex x ts
theorem iT {k n m:Nat} {x:Bs} (h:Tx k n x) (hm:n≤m):Tx k m x:=by
 obtain⟨ts,h1,h2,h3⟩:=h
 exact⟨ts,h1,by omega,h3⟩
theorem zW:Tx 0 0 []:=⟨[], .nil,by simp,Dy⟩
theorem Ct {x:Bs} {n:Nat} {s:Bs} (hn:n=1∨n=2) (h:Lex x [(n,s)]):Tx 1 1 x:=⟨_, .leaf n s hn .nil,by simp,h⟩
theorem zX {a b n m:Nat} {x y:Bs} (hx:Tx a n x) (hy:Tx b m y) (hd:∀r,Dl r→Dl (y++r)):Tx (a+b) (n+m) (x++y):=by
 obtain⟨ts,h1,h2,h3⟩:=hx
 obtain⟨us,g1,g2,g3⟩:=hy
 exact⟨ts++us,EW h1 g1,by rw[List.length_append];omega,Dz h3 g3 hd⟩
theorem Cu {k n:Nat} {x:Bs} (h:Tx k n x):Tx 1 (n+2) (([40]++x)++[41]):=by
 obtain⟨ts,h1,h2,h3⟩:=h
 refine⟨(3,[])::(ts++(4,[])::[]), .grp h1 .nil,by simp;omega,?_⟩
 intro r us hr hl hs
 have e:(([40]++x)++[41])++r=40::(x++(41::r)):=by simp
 have e2:((3,[])::(ts++(4,[])::[]))++us=((3,[]):Tkn)::(ts++(((4,[]):Tkn)::us)):=by simp
 rw[e,e2]
 simp only[List.length_append,List.length_cons,List.length_nil]at hl
 refine .cons (by simp) (jU 40 3 (by simp) _) (h3 _ _ (Dx _ (by simp)) (by rw[List.length_cons];omega) ?_)
 exact .cons (by simp) (jU 41 4 (by simp) _) hs
inductive TxL:Nat→Nat→List Bs→Prop
 |nil:TxL 0 0 []
 |cons {a b n m:Nat} {x:Bs} {l:List Bs} (h:Tx a n x) (hs:TxL b m l):TxL (a+b) (n+m) (x::l)
theorem DC {k n:Nat} {l:List Bs} (h:TxL k n l):Tx k (n+l.length) (l.flatMap fun x=>[32]++x)∧∀r,Dl r→Dl ((l.flatMap fun x=>[32]++x)++r):=by
 induction h with
 |nil=>exact⟨zW,fun r h=>h⟩
 |cons h htl ih=>
  rename_i a b n m x l
  obtain⟨i1,i2⟩:=ih
  refine⟨?_,fun r _=>?_⟩
  ·rw[List.flatMap_cons,List.append_assoc]
   have hx:Tx (a+b) (n+(m+l.length)) (x++l.flatMap fun x=>[32]++x):=zX h i1 i2
   obtain⟨ts,h1,h2,h3⟩:=hx
   refine⟨(5,[])::ts, .space h1,by simp only[List.length_cons];omega,?_⟩
   intro r us hr hl hs
   simp only[List.length_append,List.length_cons,List.length_nil]at hl
   exact .cons (by simp) (jU 32 5 (by simp) _) (h3 r us hr (by simp only[List.length_append];omega) hs)
  ·rw[List.flatMap_cons]
   exact Dx _ (by simp)
theorem Be (x:Bs):∀l:List Bs,Lib.join (x::l) [32]=x++l.flatMap fun y=>[32]++y:=by
 intro l
 rw[Lib.join_cons]
 rfl
theorem Ax {k n:Nat} {l:List Bs} (h:TxL k n l):Tx k (n+l.length) (Lib.join l [32]):=by
 cases h with
 |nil=>exact zW
 |cons h hs=>
  rename_i a b n m x l
  obtain⟨i1,i2⟩:=DC hs
  rw[Be]
  refine iT (zX h i1 i2) ?_
  simp only[List.length_cons];omega
theorem DD {k n:Nat} {l:List Bs} (h:TxL k n l):Tx 1 (n+l.length+2) (zU l):=Cu (Ax h)
theorem DF {k n:Nat} {l:List Bs} (h:TxL k n l):(∀x∈l,∃q,x=40::q)→Tx k n l.flatten∧∀r,Dl r→Dl (l.flatten++r):=by
 induction h with
 |nil=>exact fun _=>⟨zW,fun r h=>h⟩
 |cons h htl ih=>
  rename_i a b n m x l
  intro hh
  obtain⟨i1,i2⟩:=ih fun y hy=>hh y (by simp[hy])
  obtain⟨q,hq⟩:=hh x (by simp)
  refine⟨?_,fun r _=>?_⟩
  ·rw[List.flatten_cons];exact zX h i1 i2
  ·rw[List.flatten_cons,hq];exact Dx _ (by simp)
theorem vP {n:Nat}:∀l:List Bs,(∀x∈l,Tx 1 n x)→TxL l.length (l.length*n) l
 |[],_=>by rw[List.length_nil,Nat.zero_mul];exact .nil
 |x::l,h=>by
  have:=TxL.cons (h x (by simp)) (vP l fun y hy=>h y (by simp[hy]))
  rw[List.length_cons,Nat.add_mul,Nat.one_mul,Nat.add_comm l.length 1,Nat.add_comm (l.length*n) n]
  exact this
end Go.Proofs.YtdoaoaicdimbeaaGreatDoor
end
