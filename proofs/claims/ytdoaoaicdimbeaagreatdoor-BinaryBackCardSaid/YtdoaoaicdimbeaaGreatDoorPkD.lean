/- Lemmas for the claim, merged: the plain reading of the program's functions, its soundness, and what they compute. -/
import Derived.Test.YtdoaoaicdimbeaaGreatDoorPkC
import Derived.KernelRfl
import Derived.Test.YtdoaoaicdimbeaaGreatDoorProg
import Derived.Lib.Split
import Derived.Lib.Walk
import Derived.Lib.Strings
import Derived.Lib.Bytealg
import Derived.Lib.CutLaws
import Derived.Lib.ConvBytes
import Derived.Laws.Strings3
import Derived.WalkKit
import Derived.Deep.OwnRows
import Derived.Deep.LoopGhost
import Derived.Deep.Light
import Derived.RangeFuncGives
import Derived.RangeFuncBox
import Derived.RangeFuncLeaves
import Derived.Shelf.Abstract
import Derived.OwnWalkIn
import Derived.TacticsInMore
import Derived.LoopNIn
import Derived.LoopIn
import Derived.Maps.RangeWalk
import Derived.Lib.IndexLaws
import Derived.Shelf.RegionOpenPlain
import Derived.Lib.Slices
import Derived.Lib.Builder
import Derived.Lib.AppendStr
import Derived.Lib.UnsafeStr
import Derived.Laws.Externs
import Derived.Laws.BitsLemmas
import Derived.Lib.SliceRun
import Derived.Shelf.Strings.OnBuilder
import Derived.Test.YtdoaoaicdimbeaaGreatDoorCards
import Derived.Test.YtdoaoaicdimbeaaGreatDoorTie
import Derived.ProofKit
import Derived.OpenShut
import Derived.Deep.DeepHandedRow
import Derived.IntWalk
import Derived.Laws.BitsAllLaws
set_option linter.all false
set_option linter.unusedVariables false
set_option linter.unusedSimpArgs false
section
namespace Go.Proofs.YtdoaoaicdimbeaaGreatDoor
open Go.Ev Go.Proofs
noncomputable def fM (hand:FuncId→Option ((FuncId→Fun)→Fun)) (wants:FuncId→Nat→Bool) (rtip ro pur:FuncId→Bool) (rsh:FuncId→Option (List RSh)) (bld:TypeId→Bool) (cutO:FuncId→Bool) (owns:TypeId→Bool) (glob:Nat→Option (IntKind×List Int)):Cfg:=⟨Tryz.prog,tyT,fnT,hand,fun _=>false,wants,rtip,ro,pur,rsh,bld,cutO,owns,glob⟩
section
variable (hand : FuncId → Option ((FuncId → Fun) → Fun)) (wants : FuncId → Nat → Bool) (rtip ro pur : FuncId → Bool) (rsh : FuncId → Option (List RSh)) (bld : TypeId → Bool) (cutO : FuncId → Bool) (owns : TypeId → Bool) (glob : Nat → Option (IntKind × List Int))
theorem Np:allT (fun t y=>gX (fM hand wants rtip ro pur rsh bld cutO owns glob) t y) MY (0*16):=⟨aB (t:=1) (by kernel_rfl) (by kernel_rfl),aB (t:=2) (by kernel_rfl) (by kernel_rfl),aB (t:=3) (by kernel_rfl) (by kernel_rfl),aB (t:=4) (by kernel_rfl) (by kernel_rfl),aB (t:=5) (by kernel_rfl) (by kernel_rfl),aB (t:=6) (by kernel_rfl) (by kernel_rfl),aB (t:=7) (by kernel_rfl) (by kernel_rfl),aB (t:=8) (by kernel_rfl) (by kernel_rfl),aB (t:=9) (by kernel_rfl) (by kernel_rfl),aB (t:=10) (by kernel_rfl) (by kernel_rfl),aB (t:=11) (by kernel_rfl) (by kernel_rfl),aB (t:=12) (by kernel_rfl) (by kernel_rfl),aB (t:=13) (by kernel_rfl) (by kernel_rfl),aB (t:=14) (by kernel_rfl) (by kernel_rfl),aB (t:=15) (by kernel_rfl) (by kernel_rfl),trivial⟩
theorem Nq:allT (fun t y=>gX (fM hand wants rtip ro pur rsh bld cutO owns glob) t y) MZ (1*16):=⟨aB (t:=16) (by kernel_rfl) (by kernel_rfl),aB (t:=17) (by kernel_rfl) (by kernel_rfl),aB (t:=18) (by kernel_rfl) (by kernel_rfl),aB (t:=19) (by kernel_rfl) (by kernel_rfl),aB (t:=20) (by kernel_rfl) (by kernel_rfl),aB (t:=21) (by kernel_rfl) (by kernel_rfl),aB (t:=22) (by kernel_rfl) (by kernel_rfl),aB (t:=23) (by kernel_rfl) (by kernel_rfl),aB (t:=24) (by kernel_rfl) (by kernel_rfl),aB (t:=25) (by kernel_rfl) (by kernel_rfl),aB (t:=26) (by kernel_rfl) (by kernel_rfl),aB (t:=27) (by kernel_rfl) (by kernel_rfl),aB (t:=28) (by kernel_rfl) (by kernel_rfl),aB (t:=29) (by kernel_rfl) (by kernel_rfl),aB (t:=30) (by kernel_rfl) (by kernel_rfl),aB (t:=31) (by kernel_rfl) (by kernel_rfl),trivial⟩
theorem Nr:allT (fun t y=>gX (fM hand wants rtip ro pur rsh bld cutO owns glob) t y) M1 (2*16):=⟨aB (t:=32) (by kernel_rfl) (by kernel_rfl),aB (t:=33) (by kernel_rfl) (by kernel_rfl),aB (t:=34) (by kernel_rfl) (by kernel_rfl),aB (t:=35) (by kernel_rfl) (by kernel_rfl),aB (t:=36) (by kernel_rfl) (by kernel_rfl),aB (t:=37) (by kernel_rfl) (by kernel_rfl),aB (t:=39) (by kernel_rfl) (by kernel_rfl),aB (t:=40) (by kernel_rfl) (by kernel_rfl),aB (t:=41) (by kernel_rfl) (by kernel_rfl),aB (t:=42) (by kernel_rfl) (by kernel_rfl),aB (t:=43) (by kernel_rfl) (by kernel_rfl),aB (t:=44) (by kernel_rfl) (by kernel_rfl),aB (t:=45) (by kernel_rfl) (by kernel_rfl),aB (t:=46) (by kernel_rfl) (by kernel_rfl),trivial⟩
theorem Ns:allT (fun t y=>gX (fM hand wants rtip ro pur rsh bld cutO owns glob) t y) M3 (3*16):=⟨aB (t:=48) (by kernel_rfl) (by kernel_rfl),aB (t:=50) (by kernel_rfl) (by kernel_rfl),aB (t:=51) (by kernel_rfl) (by kernel_rfl),aB (t:=52) (by kernel_rfl) (by kernel_rfl),aB (t:=53) (by kernel_rfl) (by kernel_rfl),aB (t:=54) (by kernel_rfl) (by kernel_rfl),aB (t:=55) (by kernel_rfl) (by kernel_rfl),aB (t:=56) (by kernel_rfl) (by kernel_rfl),aB (t:=57) (by kernel_rfl) (by kernel_rfl),aB (t:=58) (by kernel_rfl) (by kernel_rfl),aB (t:=59) (by kernel_rfl) (by kernel_rfl),aB (t:=60) (by kernel_rfl) (by kernel_rfl),aB (t:=61) (by kernel_rfl) (by kernel_rfl),aB (t:=62) (by kernel_rfl) (by kernel_rfl),aB (t:=63) (by kernel_rfl) (by kernel_rfl),trivial⟩
theorem Nt:allT (fun t y=>gX (fM hand wants rtip ro pur rsh bld cutO owns glob) t y) M4 (4*16):=⟨aB (t:=65) (by kernel_rfl) (by kernel_rfl),aB (t:=66) (by kernel_rfl) (by kernel_rfl),aB (t:=67) (by kernel_rfl) (by kernel_rfl),aB (t:=68) (by kernel_rfl) (by kernel_rfl),aB (t:=69) (by kernel_rfl) (by kernel_rfl),aB (t:=70) (by kernel_rfl) (by kernel_rfl),aB (t:=71) (by kernel_rfl) (by kernel_rfl),aB (t:=72) (by kernel_rfl) (by kernel_rfl),aB (t:=73) (by kernel_rfl) (by kernel_rfl),aB (t:=74) (by kernel_rfl) (by kernel_rfl),aB (t:=76) (by kernel_rfl) (by kernel_rfl),aB (t:=77) (by kernel_rfl) (by kernel_rfl),aB (t:=78) (by kernel_rfl) (by kernel_rfl),aB (t:=79) (by kernel_rfl) (by kernel_rfl),trivial⟩
theorem Nu:allT (fun t y=>gX (fM hand wants rtip ro pur rsh bld cutO owns glob) t y) M5 (5*16):=⟨aB (t:=80) (by kernel_rfl) (by kernel_rfl),aB (t:=81) (by kernel_rfl) (by kernel_rfl),aB (t:=82) (by kernel_rfl) (by kernel_rfl),aB (t:=83) (by kernel_rfl) (by kernel_rfl),aB (t:=84) (by kernel_rfl) (by kernel_rfl),aB (t:=86) (by kernel_rfl) (by kernel_rfl),aB (t:=87) (by kernel_rfl) (by kernel_rfl),aB (t:=88) (by kernel_rfl) (by kernel_rfl),aB (t:=89) (by kernel_rfl) (by kernel_rfl),aB (t:=90) (by kernel_rfl) (by kernel_rfl),aB (t:=91) (by kernel_rfl) (by kernel_rfl),aB (t:=93) (by kernel_rfl) (by kernel_rfl),aB (t:=94) (by kernel_rfl) (by kernel_rfl),aB (t:=95) (by kernel_rfl) (by kernel_rfl),trivial⟩
theorem Nv:allT (fun t y=>gX (fM hand wants rtip ro pur rsh bld cutO owns glob) t y) M7 (6*16):=⟨aB (t:=97) (by kernel_rfl) (by kernel_rfl),aB (t:=98) (by kernel_rfl) (by kernel_rfl),aB (t:=99) (by kernel_rfl) (by kernel_rfl),aB (t:=100) (by kernel_rfl) (by kernel_rfl),aB (t:=102) (by kernel_rfl) (by kernel_rfl),aB (t:=104) (by kernel_rfl) (by kernel_rfl),aB (t:=105) (by kernel_rfl) (by kernel_rfl),aB (t:=106) (by kernel_rfl) (by kernel_rfl),aB (t:=107) (by kernel_rfl) (by kernel_rfl),aB (t:=108) (by kernel_rfl) (by kernel_rfl),aB (t:=110) (by kernel_rfl) (by kernel_rfl),aB (t:=111) (by kernel_rfl) (by kernel_rfl),trivial⟩
theorem Nw:allT (fun t y=>gX (fM hand wants rtip ro pur rsh bld cutO owns glob) t y) M8 (7*16):=⟨aB (t:=112) (by kernel_rfl) (by kernel_rfl),aB (t:=113) (by kernel_rfl) (by kernel_rfl),aB (t:=114) (by kernel_rfl) (by kernel_rfl),aB (t:=115) (by kernel_rfl) (by kernel_rfl),aB (t:=116) (by kernel_rfl) (by kernel_rfl),aB (t:=118) (by kernel_rfl) (by kernel_rfl),aB (t:=119) (by kernel_rfl) (by kernel_rfl),aB (t:=120) (by kernel_rfl) (by kernel_rfl),aB (t:=121) (by kernel_rfl) (by kernel_rfl),aB (t:=122) (by kernel_rfl) (by kernel_rfl),aB (t:=123) (by kernel_rfl) (by kernel_rfl),aB (t:=125) (by kernel_rfl) (by kernel_rfl),aB (t:=127) (by kernel_rfl) (by kernel_rfl),trivial⟩
theorem Nx:allT (fun t y=>gX (fM hand wants rtip ro pur rsh bld cutO owns glob) t y) M9 (8*16):=⟨aB (t:=128) (by kernel_rfl) (by kernel_rfl),aB (t:=129) (by kernel_rfl) (by kernel_rfl),aB (t:=130) (by kernel_rfl) (by kernel_rfl),aB (t:=131) (by kernel_rfl) (by kernel_rfl),aB (t:=132) (by kernel_rfl) (by kernel_rfl),aB (t:=133) (by kernel_rfl) (by kernel_rfl),aB (t:=134) (by kernel_rfl) (by kernel_rfl),aB (t:=135) (by kernel_rfl) (by kernel_rfl),aB (t:=136) (by kernel_rfl) (by kernel_rfl),aB (t:=137) (by kernel_rfl) (by kernel_rfl),aB (t:=139) (by kernel_rfl) (by kernel_rfl),aB (t:=140) (by kernel_rfl) (by kernel_rfl),aB (t:=141) (by kernel_rfl) (by kernel_rfl),aB (t:=142) (by kernel_rfl) (by kernel_rfl),aB (t:=143) (by kernel_rfl) (by kernel_rfl),trivial⟩
theorem Ny:allT (fun t y=>gX (fM hand wants rtip ro pur rsh bld cutO owns glob) t y) Na (9*16):=⟨aB (t:=144) (by kernel_rfl) (by kernel_rfl),aB (t:=146) (by kernel_rfl) (by kernel_rfl),aB (t:=147) (by kernel_rfl) (by kernel_rfl),aB (t:=148) (by kernel_rfl) (by kernel_rfl),aB (t:=149) (by kernel_rfl) (by kernel_rfl),aB (t:=150) (by kernel_rfl) (by kernel_rfl),aB (t:=151) (by kernel_rfl) (by kernel_rfl),aB (t:=152) (by kernel_rfl) (by kernel_rfl),aB (t:=153) (by kernel_rfl) (by kernel_rfl),aB (t:=154) (by kernel_rfl) (by kernel_rfl),aB (t:=156) (by kernel_rfl) (by kernel_rfl),aB (t:=157) (by kernel_rfl) (by kernel_rfl),aB (t:=159) (by kernel_rfl) (by kernel_rfl),trivial⟩
theorem LC:allT (fun t y=>gX (fM hand wants rtip ro pur rsh bld cutO owns glob) t y) KP (10*16):=⟨aB (t:=160) (by kernel_rfl) (by kernel_rfl),aB (t:=161) (by kernel_rfl) (by kernel_rfl),aB (t:=162) (by kernel_rfl) (by kernel_rfl),aB (t:=163) (by kernel_rfl) (by kernel_rfl),aB (t:=164) (by kernel_rfl) (by kernel_rfl),aB (t:=165) (by kernel_rfl) (by kernel_rfl),aB (t:=166) (by kernel_rfl) (by kernel_rfl),aB (t:=167) (by kernel_rfl) (by kernel_rfl),aB (t:=169) (by kernel_rfl) (by kernel_rfl),aB (t:=170) (by kernel_rfl) (by kernel_rfl),aB (t:=171) (by kernel_rfl) (by kernel_rfl),aB (t:=172) (by kernel_rfl) (by kernel_rfl),aB (t:=173) (by kernel_rfl) (by kernel_rfl),aB (t:=174) (by kernel_rfl) (by kernel_rfl),aB (t:=175) (by kernel_rfl) (by kernel_rfl),trivial⟩
theorem LD:allT (fun t y=>gX (fM hand wants rtip ro pur rsh bld cutO owns glob) t y) KQ (11*16):=⟨aB (t:=176) (by kernel_rfl) (by kernel_rfl),aB (t:=178) (by kernel_rfl) (by kernel_rfl),aB (t:=179) (by kernel_rfl) (by kernel_rfl),aB (t:=180) (by kernel_rfl) (by kernel_rfl),aB (t:=181) (by kernel_rfl) (by kernel_rfl),aB (t:=182) (by kernel_rfl) (by kernel_rfl),aB (t:=183) (by kernel_rfl) (by kernel_rfl),aB (t:=185) (by kernel_rfl) (by kernel_rfl),aB (t:=186) (by kernel_rfl) (by kernel_rfl),aB (t:=187) (by kernel_rfl) (by kernel_rfl),aB (t:=188) (by kernel_rfl) (by kernel_rfl),aB (t:=190) (by kernel_rfl) (by kernel_rfl),aB (t:=191) (by kernel_rfl) (by kernel_rfl),trivial⟩
theorem LE:allT (fun t y=>gX (fM hand wants rtip ro pur rsh bld cutO owns glob) t y) KR (12*16):=⟨aB (t:=192) (by kernel_rfl) (by kernel_rfl),aB (t:=193) (by kernel_rfl) (by kernel_rfl),aB (t:=194) (by kernel_rfl) (by kernel_rfl),aB (t:=196) (by kernel_rfl) (by kernel_rfl),aB (t:=197) (by kernel_rfl) (by kernel_rfl),aB (t:=198) (by kernel_rfl) (by kernel_rfl),aB (t:=199) (by kernel_rfl) (by kernel_rfl),aB (t:=200) (by kernel_rfl) (by kernel_rfl),aB (t:=201) (by kernel_rfl) (by kernel_rfl),aB (t:=202) (by kernel_rfl) (by kernel_rfl),aB (t:=203) (by kernel_rfl) (by kernel_rfl),aB (t:=204) (by kernel_rfl) (by kernel_rfl),aB (t:=205) (by kernel_rfl) (by kernel_rfl),aB (t:=206) (by kernel_rfl) (by kernel_rfl),aB (t:=207) (by kernel_rfl) (by kernel_rfl),trivial⟩
theorem LF:allT (fun t y=>gX (fM hand wants rtip ro pur rsh bld cutO owns glob) t y) KT (13*16):=⟨aB (t:=208) (by kernel_rfl) (by kernel_rfl),aB (t:=209) (by kernel_rfl) (by kernel_rfl),aB (t:=210) (by kernel_rfl) (by kernel_rfl),aB (t:=211) (by kernel_rfl) (by kernel_rfl),aB (t:=212) (by kernel_rfl) (by kernel_rfl),aB (t:=213) (by kernel_rfl) (by kernel_rfl),aB (t:=214) (by kernel_rfl) (by kernel_rfl),aB (t:=216) (by kernel_rfl) (by kernel_rfl),aB (t:=217) (by kernel_rfl) (by kernel_rfl),aB (t:=218) (by kernel_rfl) (by kernel_rfl),aB (t:=220) (by kernel_rfl) (by kernel_rfl),aB (t:=221) (by kernel_rfl) (by kernel_rfl),aB (t:=222) (by kernel_rfl) (by kernel_rfl),aB (t:=223) (by kernel_rfl) (by kernel_rfl),trivial⟩
theorem LG:allT (fun t y=>gX (fM hand wants rtip ro pur rsh bld cutO owns glob) t y) KU (14*16):=⟨aB (t:=224) (by kernel_rfl) (by kernel_rfl),aB (t:=225) (by kernel_rfl) (by kernel_rfl),aB (t:=226) (by kernel_rfl) (by kernel_rfl),aB (t:=227) (by kernel_rfl) (by kernel_rfl),aB (t:=228) (by kernel_rfl) (by kernel_rfl),aB (t:=229) (by kernel_rfl) (by kernel_rfl),aB (t:=231) (by kernel_rfl) (by kernel_rfl),aB (t:=232) (by kernel_rfl) (by kernel_rfl),aB (t:=234) (by kernel_rfl) (by kernel_rfl),aB (t:=235) (by kernel_rfl) (by kernel_rfl),aB (t:=236) (by kernel_rfl) (by kernel_rfl),aB (t:=237) (by kernel_rfl) (by kernel_rfl),aB (t:=238) (by kernel_rfl) (by kernel_rfl),aB (t:=239) (by kernel_rfl) (by kernel_rfl),trivial⟩
theorem LH:allT (fun t y=>gX (fM hand wants rtip ro pur rsh bld cutO owns glob) t y) KV (15*16):=⟨aB (t:=240) (by kernel_rfl) (by kernel_rfl),aB (t:=241) (by kernel_rfl) (by kernel_rfl),aB (t:=242) (by kernel_rfl) (by kernel_rfl),aB (t:=243) (by kernel_rfl) (by kernel_rfl),aB (t:=244) (by kernel_rfl) (by kernel_rfl),aB (t:=245) (by kernel_rfl) (by kernel_rfl),aB (t:=246) (by kernel_rfl) (by kernel_rfl),aB (t:=247) (by kernel_rfl) (by kernel_rfl),aB (t:=248) (by kernel_rfl) (by kernel_rfl),aB (t:=249) (by kernel_rfl) (by kernel_rfl),aB (t:=250) (by kernel_rfl) (by kernel_rfl),trivial⟩
theorem Nz:C7 (fun t y=>gX (fM hand wants rtip ro pur rsh bld cutO owns glob) t y) 16 Nb 0:=⟨by decide,Np hand wants rtip ro pur rsh bld cutO owns glob,by decide,Nq hand wants rtip ro pur rsh bld cutO owns glob,by decide,Nr hand wants rtip ro pur rsh bld cutO owns glob,by decide,Ns hand wants rtip ro pur rsh bld cutO owns glob,by decide,Nt hand wants rtip ro pur rsh bld cutO owns glob,by decide,Nu hand wants rtip ro pur rsh bld cutO owns glob,by decide,Nv hand wants rtip ro pur rsh bld cutO owns glob,by decide,Nw hand wants rtip ro pur rsh bld cutO owns glob,by decide,Nx hand wants rtip ro pur rsh bld cutO owns glob,by decide,Ny hand wants rtip ro pur rsh bld cutO owns glob,by decide,LC hand wants rtip ro pur rsh bld cutO owns glob,by decide,LD hand wants rtip ro pur rsh bld cutO owns glob,by decide,LE hand wants rtip ro pur rsh bld cutO owns glob,by decide,LF hand wants rtip ro pur rsh bld cutO owns glob,by decide,LG hand wants rtip ro pur rsh bld cutO owns glob,by decide,LH hand wants rtip ro pur rsh bld cutO owns glob,trivial⟩
def pZ (f : FuncId) (x : Func) : Prop := Tryz.prog.funcs[f]? = some x ∧ x.name ≠ "runtime.NumGoroutine" ∧ x.body.isSome = true
theorem aN {f : FuncId} {x : Func} (h1 : Tryz.prog.funcs[f]? = some x) (h2 : (!(x.name == "runtime.NumGoroutine") && x.body.isSome) = true) : pZ f x := by
 simp only[Bool.and_eq_true]at h2
 exact⟨h1,by simpa using h2.1,h2.2⟩
theorem NA:allT pZ Nc (0*16):=⟨aN (f:=2) Tryz.func2 (by kernel_rfl),aN (f:=3) Tryz.func3 (by kernel_rfl),aN (f:=4) Tryz.func4 (by kernel_rfl),aN (f:=5) Tryz.func5 (by kernel_rfl),aN (f:=6) Tryz.func6 (by kernel_rfl),aN (f:=7) Tryz.func7 (by kernel_rfl),aN (f:=8) Tryz.func8 (by kernel_rfl),aN (f:=9) Tryz.func9 (by kernel_rfl),aN (f:=10) Tryz.func10 (by kernel_rfl),aN (f:=11) Tryz.func11 (by kernel_rfl),aN (f:=12) Tryz.func12 (by kernel_rfl),aN (f:=13) Tryz.func13 (by kernel_rfl),aN (f:=14) Tryz.func14 (by kernel_rfl),aN (f:=15) Tryz.func15 (by kernel_rfl),trivial⟩
theorem NB:allT pZ Nf (1*16):=⟨aN (f:=16) Tryz.func16 (by kernel_rfl),aN (f:=17) Tryz.func17 (by kernel_rfl),aN (f:=18) Tryz.func18 (by kernel_rfl),aN (f:=19) Tryz.func19 (by kernel_rfl),aN (f:=20) Tryz.func20 (by kernel_rfl),aN (f:=21) Tryz.func21 (by kernel_rfl),aN (f:=22) Tryz.func22 (by kernel_rfl),aN (f:=23) Tryz.func23 (by kernel_rfl),aN (f:=24) Tryz.func24 (by kernel_rfl),aN (f:=25) Tryz.func25 (by kernel_rfl),aN (f:=26) Tryz.func26 (by kernel_rfl),aN (f:=27) Tryz.func27 (by kernel_rfl),aN (f:=28) Tryz.func28 (by kernel_rfl),aN (f:=29) Tryz.func29 (by kernel_rfl),aN (f:=30) Tryz.func30 (by kernel_rfl),aN (f:=31) Tryz.func31 (by kernel_rfl),trivial⟩
theorem NC:allT pZ Ng (2*16):=⟨aN (f:=32) Tryz.func32 (by kernel_rfl),aN (f:=33) Tryz.func33 (by kernel_rfl),aN (f:=34) Tryz.func34 (by kernel_rfl),aN (f:=35) Tryz.func35 (by kernel_rfl),aN (f:=36) Tryz.func36 (by kernel_rfl),aN (f:=37) Tryz.func37 (by kernel_rfl),aN (f:=38) Tryz.func38 (by kernel_rfl),aN (f:=39) Tryz.func39 (by kernel_rfl),aN (f:=40) Tryz.func40 (by kernel_rfl),aN (f:=41) Tryz.func41 (by kernel_rfl),aN (f:=42) Tryz.func42 (by kernel_rfl),aN (f:=43) Tryz.func43 (by kernel_rfl),aN (f:=44) Tryz.func44 (by kernel_rfl),aN (f:=45) Tryz.func45 (by kernel_rfl),aN (f:=46) Tryz.func46 (by kernel_rfl),aN (f:=47) Tryz.func47 (by kernel_rfl),trivial⟩
theorem ND:allT pZ Nh (3*16):=⟨aN (f:=48) Tryz.func48 (by kernel_rfl),aN (f:=49) Tryz.func49 (by kernel_rfl),aN (f:=50) Tryz.func50 (by kernel_rfl),aN (f:=51) Tryz.func51 (by kernel_rfl),aN (f:=52) Tryz.func52 (by kernel_rfl),aN (f:=53) Tryz.func53 (by kernel_rfl),aN (f:=54) Tryz.func54 (by kernel_rfl),aN (f:=55) Tryz.func55 (by kernel_rfl),aN (f:=56) Tryz.func56 (by kernel_rfl),aN (f:=57) Tryz.func57 (by kernel_rfl),aN (f:=58) Tryz.func58 (by kernel_rfl),aN (f:=59) Tryz.func59 (by kernel_rfl),aN (f:=60) Tryz.func60 (by kernel_rfl),aN (f:=61) Tryz.func61 (by kernel_rfl),aN (f:=62) Tryz.func62 (by kernel_rfl),aN (f:=63) Tryz.func63 (by kernel_rfl),trivial⟩
theorem NE:allT pZ Ni (4*16):=⟨aN (f:=64) Tryz.func64 (by kernel_rfl),aN (f:=65) Tryz.func65 (by kernel_rfl),aN (f:=66) Tryz.func66 (by kernel_rfl),aN (f:=67) Tryz.func67 (by kernel_rfl),aN (f:=68) Tryz.func68 (by kernel_rfl),aN (f:=69) Tryz.func69 (by kernel_rfl),aN (f:=70) Tryz.func70 (by kernel_rfl),aN (f:=71) Tryz.func71 (by kernel_rfl),aN (f:=72) Tryz.func72 (by kernel_rfl),aN (f:=73) Tryz.func73 (by kernel_rfl),aN (f:=74) Tryz.func74 (by kernel_rfl),aN (f:=75) Tryz.func75 (by kernel_rfl),aN (f:=76) Tryz.func76 (by kernel_rfl),aN (f:=77) Tryz.func77 (by kernel_rfl),aN (f:=78) Tryz.func78 (by kernel_rfl),aN (f:=79) Tryz.func79 (by kernel_rfl),trivial⟩
theorem NF:allT pZ Nj (5*16):=⟨aN (f:=80) Tryz.func80 (by kernel_rfl),aN (f:=81) Tryz.func81 (by kernel_rfl),aN (f:=82) Tryz.func82 (by kernel_rfl),aN (f:=83) Tryz.func83 (by kernel_rfl),aN (f:=84) Tryz.func84 (by kernel_rfl),aN (f:=85) Tryz.func85 (by kernel_rfl),aN (f:=86) Tryz.func86 (by kernel_rfl),aN (f:=87) Tryz.func87 (by kernel_rfl),aN (f:=88) Tryz.func88 (by kernel_rfl),aN (f:=89) Tryz.func89 (by kernel_rfl),aN (f:=90) Tryz.func90 (by kernel_rfl),aN (f:=91) Tryz.func91 (by kernel_rfl),aN (f:=92) Tryz.func92 (by kernel_rfl),aN (f:=93) Tryz.func93 (by kernel_rfl),aN (f:=95) Tryz.func95 (by kernel_rfl),trivial⟩
theorem NG:allT pZ Nk (6*16):=⟨aN (f:=96) Tryz.func96 (by kernel_rfl),aN (f:=97) Tryz.func97 (by kernel_rfl),aN (f:=98) Tryz.func98 (by kernel_rfl),aN (f:=99) Tryz.func99 (by kernel_rfl),aN (f:=100) Tryz.func100 (by kernel_rfl),aN (f:=101) Tryz.func101 (by kernel_rfl),aN (f:=102) Tryz.func102 (by kernel_rfl),aN (f:=103) Tryz.func103 (by kernel_rfl),aN (f:=104) Tryz.func104 (by kernel_rfl),aN (f:=105) Tryz.func105 (by kernel_rfl),aN (f:=106) Tryz.func106 (by kernel_rfl),aN (f:=107) Tryz.func107 (by kernel_rfl),aN (f:=108) Tryz.func108 (by kernel_rfl),aN (f:=109) Tryz.func109 (by kernel_rfl),aN (f:=110) Tryz.func110 (by kernel_rfl),aN (f:=111) Tryz.func111 (by kernel_rfl),trivial⟩
theorem NH:allT pZ Nl (7*16):=⟨aN (f:=112) Tryz.func112 (by kernel_rfl),aN (f:=113) Tryz.func113 (by kernel_rfl),aN (f:=114) Tryz.func114 (by kernel_rfl),aN (f:=115) Tryz.func115 (by kernel_rfl),aN (f:=116) Tryz.func116 (by kernel_rfl),aN (f:=117) Tryz.func117 (by kernel_rfl),aN (f:=118) Tryz.func118 (by kernel_rfl),aN (f:=119) Tryz.func119 (by kernel_rfl),aN (f:=120) Tryz.func120 (by kernel_rfl),aN (f:=121) Tryz.func121 (by kernel_rfl),aN (f:=122) Tryz.func122 (by kernel_rfl),aN (f:=123) Tryz.func123 (by kernel_rfl),aN (f:=124) Tryz.func124 (by kernel_rfl),aN (f:=125) Tryz.func125 (by kernel_rfl),aN (f:=126) Tryz.func126 (by kernel_rfl),aN (f:=127) Tryz.func127 (by kernel_rfl),trivial⟩
theorem NI:allT pZ Nm (8*16):=⟨aN (f:=128) Tryz.func128 (by kernel_rfl),aN (f:=129) Tryz.func129 (by kernel_rfl),aN (f:=130) Tryz.func130 (by kernel_rfl),aN (f:=131) Tryz.func131 (by kernel_rfl),aN (f:=132) Tryz.func132 (by kernel_rfl),aN (f:=133) Tryz.func133 (by kernel_rfl),aN (f:=134) Tryz.func134 (by kernel_rfl),aN (f:=135) Tryz.func135 (by kernel_rfl),aN (f:=136) Tryz.func136 (by kernel_rfl),aN (f:=137) Tryz.func137 (by kernel_rfl),aN (f:=138) Tryz.func138 (by kernel_rfl),aN (f:=139) Tryz.func139 (by kernel_rfl),aN (f:=140) Tryz.func140 (by kernel_rfl),aN (f:=141) Tryz.func141 (by kernel_rfl),aN (f:=142) Tryz.func142 (by kernel_rfl),aN (f:=143) Tryz.func143 (by kernel_rfl),trivial⟩
theorem NJ:allT pZ Nn (9*16):=⟨aN (f:=144) Tryz.func144 (by kernel_rfl),aN (f:=145) Tryz.func145 (by kernel_rfl),aN (f:=147) Tryz.func147 (by kernel_rfl),aN (f:=148) Tryz.func148 (by kernel_rfl),aN (f:=149) Tryz.func149 (by kernel_rfl),aN (f:=150) Tryz.func150 (by kernel_rfl),aN (f:=151) Tryz.func151 (by kernel_rfl),aN (f:=152) Tryz.func152 (by kernel_rfl),aN (f:=153) Tryz.func153 (by kernel_rfl),aN (f:=154) Tryz.func154 (by kernel_rfl),aN (f:=155) Tryz.func155 (by kernel_rfl),aN (f:=156) Tryz.func156 (by kernel_rfl),aN (f:=157) Tryz.func157 (by kernel_rfl),aN (f:=158) Tryz.func158 (by kernel_rfl),aN (f:=159) Tryz.func159 (by kernel_rfl),trivial⟩
theorem LI:allT pZ KW (10*16):=⟨aN (f:=160) Tryz.func160 (by kernel_rfl),aN (f:=161) Tryz.func161 (by kernel_rfl),aN (f:=163) Tryz.func163 (by kernel_rfl),aN (f:=164) Tryz.func164 (by kernel_rfl),aN (f:=165) Tryz.func165 (by kernel_rfl),aN (f:=166) Tryz.func166 (by kernel_rfl),aN (f:=167) Tryz.func167 (by kernel_rfl),aN (f:=168) Tryz.func168 (by kernel_rfl),aN (f:=169) Tryz.func169 (by kernel_rfl),aN (f:=170) Tryz.func170 (by kernel_rfl),aN (f:=171) Tryz.func171 (by kernel_rfl),aN (f:=173) Tryz.func173 (by kernel_rfl),aN (f:=174) Tryz.func174 (by kernel_rfl),aN (f:=175) Tryz.func175 (by kernel_rfl),trivial⟩
theorem LJ:allT pZ KX (11*16):=⟨aN (f:=176) Tryz.func176 (by kernel_rfl),aN (f:=177) Tryz.func177 (by kernel_rfl),aN (f:=178) Tryz.func178 (by kernel_rfl),aN (f:=179) Tryz.func179 (by kernel_rfl),aN (f:=180) Tryz.func180 (by kernel_rfl),aN (f:=181) Tryz.func181 (by kernel_rfl),aN (f:=183) Tryz.func183 (by kernel_rfl),trivial⟩
theorem LK:allT pZ KY (12*16):=trivial
theorem LL:allT pZ KZ (13*16):=⟨aN (f:=208) Tryz.func208 (by kernel_rfl),trivial⟩
theorem NK:C7 pZ 16 No 0:=⟨by decide,NA,by decide,NB,by decide,NC,by decide,ND,by decide,NE,by decide,NF,by decide,NG,by decide,NH,by decide,NI,by decide,NJ,by decide,LI,by decide,LJ,by decide,LK,by decide,LL,trivial⟩
theorem NL (hro:∀f x,ro f=true→fnT f=some x→∀b,x.body=some b→jE (fM hand wants rtip ro pur rsh bld cutO owns glob) b=true):aZ (fM hand wants rtip ro pur rsh bld cutO owns glob):=⟨fun t y h=>AX (by decide) (Nz hand wants rtip ro pur rsh bld cutO owns glob) h,fun f x h=>AX (by decide) NK h,by kernel_rfl,fun _=>rfl,hro⟩
end
end Go.Proofs.YtdoaoaicdimbeaaGreatDoor
end
section
namespace Go.Proofs.YtdoaoaicdimbeaaGreatDoor
open Go.RowKit
def kM (c:Int):Int:=if 65≤c∧c≤90 then c+32 else c
theorem EA {c:Int} (h:0≤c∧c<256):0≤kM c∧kM c<256:=by unfold kM;split<;>omega
set_option maxHeartbeats 1000000 in
theorem lower_c (c:Int) (h:0≤c∧c<256) (w:World):Calls Tryz.prog 111 #[.int .u8 c] w fun e w' =>e= .returned (.int .u8 (kM c))∧w' =w:=by
 by_cases h1:65≤c
 ·by_cases h2:c≤90
  ·have e:kM c=c - 65+97:=by unfold kM;rw[if_pos ⟨h1,h2⟩];omega
   rw[e]
   go_enter Tryz.func111,Tryz.ntmps111
   go_wp2
   go_ret
   exact⟨rfl,rfl⟩
  ·have e:kM c=c:=by unfold kM;rw[if_neg (by omega)]
   rw[e]
   go_enter Tryz.func111,Tryz.ntmps111
   go_wp2
   go_ret
   exact⟨rfl,rfl⟩
 ·have e:kM c=c:=by unfold kM;rw[if_neg (by omega)]
  rw[e]
  go_enter Tryz.func111,Tryz.ntmps111
  go_wp2
  go_ret
  exact⟨rfl,rfl⟩
set_option maxRecDepth 100000 in
set_option maxHeartbeats 1000000 in
theorem vK (s:ByteArray) (c:Int) (w:World):Calls Tryz.prog 122 #[.string s, .int .u8 c] w fun e w' =>e= .returned (.int .i64 (Lib.indexByte s.data.toList c.toNat.toUInt8))∧w' =w:=by
 go_enter Tryz.func122,Tryz.ntmps122
 go_wp2
 rw[run_callFunc_extern Tryz.func146 (by kernel_rfl) (by kernel_rfl) (by kernel_rfl) (e:=Extern.BytealgIndexByte.indexByte) (by kernel_rfl),Lib.run_indexByteString]
 simp only[Result.andThen]
 rw[Oper.upon_value]
 go_wp2
 go_ret
 exact⟨rfl,rfl⟩
set_option maxHeartbeats 1000000 in
theorem BS (s:ByteArray) (c:Int) (w:World):Calls Tryz.prog 89 #[.string s, .int .u8 c] w fun e w' =>e= .returned (.int .i64 (Lib.indexByte s.data.toList c.toNat.toUInt8))∧w' =w:=by
 go_enter Tryz.func89,Tryz.ntmps89
 go_wp2_with (first|(go_at_call 122;refine(vK _ _ _).mono ?_;rintro e w' ⟨rfl,hw⟩;rw[hw]))
 go_ret
 exact⟨rfl,rfl⟩
abbrev at1 (s:ByteArray) (b:UInt8):Int:=Lib.indexByte s.data.toList b
set_option maxHeartbeats 1000000 in
theorem E7 (s:ByteArray) (b:UInt8) (w:World):Calls Tryz.prog 168 #[.string s, .string ⟨#[b]⟩] w fun e w' =>e= .returned (.int .i64 (at1 s b))∧w' =w:=by
 go_enter Tryz.func168,Tryz.ntmps168
 go_wp2_with (first|(go_at_call 122;refine(vK _ _ _).mono ?_;rintro e w' ⟨rfl,hw⟩;rw[hw]))
 ·have h:([b]==s.toList)=true:=by assumption
  go_ret
  refine⟨?_,rfl⟩
  have e:s.data.toList=[b]:=by rw[←Lib.toList_data];exact(beq_iff_eq.1 h).symm
  unfold at1
  rw[e]
  simp[Lib.indexByte]
 ·go_ret
  exact⟨rfl,rfl⟩
set_option maxHeartbeats 1000000 in
theorem G5 (s:ByteArray) (b:UInt8) (w:World):Calls Tryz.prog 179 #[.string s, .string ⟨#[b]⟩] w fun e w' =>e= .returned (.int .i64 (at1 s b))∧w' =w:=by
 go_enter Tryz.func179,Tryz.ntmps179
 go_wp2_with (first|(go_at_call 168;refine(E7 _ _ _).mono ?_;rintro e w' ⟨rfl,hw⟩;rw[hw]))
 go_ret
 exact⟨rfl,rfl⟩
theorem info9:(Tryz.prog.info? 9).map (fun i=>(i.zero,i.size,i.bytes))=some (some (.string ByteArray.empty),1,16):=by kernel_rfl
theorem rG (b:UInt8):∀l:List UInt8,Lib.index l [b]=Lib.indexByte l b
 |[]=>rfl
 |x::l=>by
  unfold Lib.index Lib.indexByte
  rw[rG b l]
  by_cases h:x=b
  ·simp[h]
  ·simp[h,Ne.symm h]
set_option maxHeartbeats 4000000 in
set_option maxRecDepth 1000000 in
theorem EB (s:ByteArray) (b:UInt8) (n:Int) (N:Nat) (w:World) (hs:s.size<4294967281) (hn0:0<n) (hn63:n≤9223372036854775807) (hN:(N:Int)=min n ((s.size:Int)+1)):
  Calls Tryz.prog 175 #[.string s, .string ⟨#[b]⟩, .int .i64 0, .int .i64 n] w fun e w' =>
   e= .returned (.slice (some ⟨w.heap.size,0,none⟩) (Lib.splitB ⟨#[b]⟩ 0 (N - 1) s).length N)∧w' =w.alloc (.cells (Lib.cellsOf (Lib.splitB ⟨#[b]⟩ 0 (N - 1) s) N) 9):=by
 have hI:∀(x:ByteArray) (c:Array Value),Calls Tryz.prog 179 #[.string x, .string ⟨#[b]⟩] (w.alloc (.cells c 9)) fun e w' =>e= .returned (.int .i64 (Lib.indexB x ⟨#[b]⟩))∧w' =w.alloc (.cells c 9):=by
  intro x c
  have:=G5 x b (w.alloc (.cells c 9))
  have e:Lib.indexB x ⟨#[b]⟩=at1 x b:=rG b _
  rw[e];exact this
 have hne:(n==0)=false:=beq_eq_false_iff_ne.2 (by omega)
 have eN' :min n ((s.size:Int)+1)=(N:Int):=hN.symm
 have hneg:¬n<0:=by omega
 have hNs:(N:Int)≤(s.size:Int)+1:=by rw[←eN'];exact Int.min_le_right _ _
 have hN1:(1:Int)≤(N:Int):=by rw[←eN'];exact Int.le_min.2 ⟨by omega,by omega⟩
 have hmk:=run_make_row' (P:=Tryz.prog) 53 9 (.string ByteArray.empty) 16 Tryz.underlying53 info9 rfl .i64 .i64 N (by omega) (by omega)
 clear hN
 go_enter Tryz.func175,Tryz.ntmps175
 go_wp2
 clear hmk
 go_loopg [0,10] (N - 1) (fun g s0 s10 wr=>∃(done:List ByteArray) (rest:ByteArray),s0= .string rest∧s10= .int .i64 done.length∧done.length≤N - 1∧g=N - 1 - done.length∧rest.size≤s.size∧
  wr=w.alloc (.cells (Lib.cellsOf done N) 9)∧done++Lib.splitB ⟨#[b]⟩ 0 (N - 1 - done.length) rest=Lib.splitB ⟨#[b]⟩ 0 (N - 1) s)
 case atStart=>exact⟨[],s,rfl,rfl,Nat.zero_le _,rfl,Nat.le_refl _,by rw[Lib.cellsOf_nil],rfl⟩
 case round=>
  obtain⟨done,rest,rfl,rfl,hd,rfl,hrs,rfl,hsp⟩:=hrel
  have hnext:(Lib.cellsOf done N)[done.length]? =some (.string ByteArray.empty):=Lib.cellsOf_next (by omega)
  have HS:Aside (done++Lib.splitB ⟨#[b]⟩ 0 (N - 1 - done.length) rest=Lib.splitB ⟨#[b]⟩ 0 (N - 1) s):=hsp
  clear hsp
  have fin:Lib.splitB ⟨#[b]⟩ 0 (N - 1 - done.length) rest=[rest]→(Lib.splitB ⟨#[b]⟩ 0 (N - 1) s).length=done.length+1∧(Lib.cellsOf done N).setIfInBounds done.length (.string rest)=Lib.cellsOf (Lib.splitB ⟨#[b]⟩ 0 (N - 1) s) N:=fun h=>by
   have e:=HS.out
   rw[h]at e
   rw[←e]
   exact⟨by simp,Lib.cellsOf_set (by omega) rest⟩
  by_cases hlt:done.length<N - 1
  ·have hltz:((done.length:Nat):Int)<(N:Int) - 1:=by omega
   rcases Lib.indexB_cases rest ⟨#[b]⟩with hix|⟨i,hix,hroom⟩
   ·go_wp2_with (first|(go_at_call 179;refine(hI rest _).mono ?_;rintro e w' ⟨rfl,hw⟩;rw[hw,hix]))
    go_ret
    obtain⟨f1,f2⟩:=fin (Lib.splitB_miss ⟨#[b]⟩ 0 _ rest hix)
    rw[f1,←f2]
    exact⟨by first|rfl|(congr 2<;>omega),rfl⟩
   ·have hroom:i+1≤rest.size:=hroom
    have c0:¬((i:Int)<0):=by omega
    have c1:(0:Int)≤↑i+0:=by omega
    have c2:(↑i+0:Int)≤↑rest.size:=by omega
    have c1' :(0:Int)≤↑i:=by omega
    have c2' :(↑i:Int)≤↑rest.size:=by omega
    have c3:(0:Int)≤↑i+1:=by omega
    have c4:(↑i+1:Int)≤↑rest.size:=by omega
    go_wp2_with (first|(go_at_call 179;refine(hI rest _).mono ?_;rintro e w' ⟨rfl,hw⟩;rw[hw,hix]))
    go_roundg (N - 1 - (done.length+1))
    case measure=>go_light;omega
    case rel=>
     go_light
     refine⟨done++[rest.extract 0 (i+0)],rest.extract (i+1) rest.size,rfl,by simp,by simp;omega,by simp,by rw[ByteArray.size_extract];omega,by rw[←Lib.cellsOf_set (by omega)];try simp,?_⟩
     rw[←HS.out,show N - 1 - done.length=(N - 1 - (done.length+1))+1 by omega,Lib.splitB_hit ⟨#[b]⟩ 0 _ rest i hix]
     simp
     rfl
  ·have hltz:¬(((done.length:Nat):Int)<(N:Int) - 1):=by omega
   go_wp2
   go_ret
   obtain⟨f1,f2⟩:=fin (by rw[show N - 1 - done.length=0 by omega];rfl)
   rw[f1,←f2]
   exact⟨by first|rfl|(congr 2<;>omega),rfl⟩
set_option maxHeartbeats 1000000 in
theorem G6 (s:ByteArray) (b:UInt8) (n:Int) (N:Nat) (w:World) (hs:s.size<4294967281) (hn0:0<n) (hn63:n≤9223372036854775807) (hN:(N:Int)=min n ((s.size:Int)+1)):
  Calls Tryz.prog 170 #[.string s, .string ⟨#[b]⟩, .int .i64 n] w fun e w' =>
   e= .returned (.slice (some ⟨w.heap.size,0,none⟩) (Lib.splitB ⟨#[b]⟩ 0 (N - 1) s).length N)∧w' =w.alloc (.cells (Lib.cellsOf (Lib.splitB ⟨#[b]⟩ 0 (N - 1) s) N) 9):=by
 go_enter Tryz.func170,Tryz.ntmps170
 go_wp2_with (first|(go_at_call 175;refine(EB s b n N _ hs hn0 hn63 hN).mono ?_;rintro e w' ⟨rfl,hw⟩;rw[hw]))
 go_ret
 exact⟨rfl,rfl⟩
structure kH (w:World) (s:ByteArray) (k:Nat) (wr:World):Prop where
 size:wr.heap.size=w.heap.size+1
 old:∀b,b<w.heap.size→wr.heap[b]? =w.heap[b]?
 os:wr.os=w.os
 out:wr.output=w.output
 tape:wr.tape=w.tape
 row:∃(cs:Array Value) (fr:Nat×Nat),wr.heap[w.heap.size]? =some (.cells cs 5 fr)∧s.size≤cs.size∧s.size≤fr.1∧
  ∀j,j<s.size→cs[j]? =some (.int .u8 (if j<k then kM (s.data.toList.getD j 0).toNat else(s.data.toList.getD j 0).toNat))
theorem kH.start (w:World) (s:ByteArray):kH w s 0 (Lib.bytesWorld w 5 s):=by
 have hge:=grownCap_ge w s.size 0 5
 have hsz:(Lib.bytesCells w 5 s).size=grownCap w s.size 0 5:=by simp[Lib.bytesCells];omega
 refine⟨Lib.bytesWorld_size w 5 s,fun b hb=>Lib.bytesWorld_at_old w 5 s b hb,?_,?_,?_,_,_,Lib.bytesWorld_at_new w 5 s,by omega,by simp only[];omega,fun j hj=>?_⟩
 iterate 3 (unfold Lib.bytesWorld World.freeze;split<;>rfl)
 have:=Lib.bytesWorld_cell w 5 s j hj
 simp only[World.cell?,Lib.bytesWorld_at_new]at this
 simpa using this
theorem kH.store {w wr:World} {s:ByteArray} {k:Nat} (h:kH w s k wr) (hk:k<s.size):
  kH w s (k+1) (wr.setCell ⟨w.heap.size,k,none⟩ (.int .u8 (kM (s.data.toList.getD k 0).toNat))):=by
 obtain⟨h1,h2,h3,h4,h5,cs,fr,h6,h7,h8,h9⟩:=h
 have hat:(wr.setCell ⟨w.heap.size,k,none⟩ (.int .u8 (kM (s.data.toList.getD k 0).toNat))).heap[w.heap.size]? =some (.cells (cs.setIfInBounds k (.int .u8 (kM (s.data.toList.getD k 0).toNat))) 5 fr):=by
  unfold World.setCell
  rw[Array.getElem?_modify,if_pos rfl,h6]
  rfl
 refine⟨by simp[World.setCell,h1],fun b hb=>?_,h3,h4,h5,_,_,hat,by simpa using h7,h8,fun j hj=>?_⟩
 ·have hne:¬(w.heap.size=b):=by omega
  unfold World.setCell
  rw[Array.getElem?_modify,if_neg hne,h2 b hb]
 ·rw[Array.getElem?_setIfInBounds]
  by_cases hjk:k=j
  ·subst hjk
   rw[if_pos rfl,if_pos (by omega),if_pos (Nat.lt_succ_self _)]
  ·rw[if_neg hjk,h9 j hj]
   by_cases hlt:j<k
   ·rw[if_pos hlt,if_pos (by omega)]
   ·rw[if_neg hlt,if_neg (by omega)]
theorem bytes_foldl:∀(ns:List Int) (s:ByteArray),ns.foldl (fun r n=>r.push (UInt8.ofNat n.toNat)) s=⟨(s.data.toList++ns.map fun n=>UInt8.ofNat n.toNat).toArray⟩
 |[],s=>by simp
 |n::ns,s=>by
  rw[List.foldl_cons,bytes_foldl ns]
  congr 1
  simp[ByteArray.push]
theorem kH.text {w wr:World} {s:ByteArray} (h:kH w s s.size wr) (cap:Nat):
  (convert 40 9 (.slice (some ⟨w.heap.size,0,none⟩) s.size cap)).run Tryz.prog wr= .ok (.string ⟨(s.data.toList.map fun b=>UInt8.ofNat (kM b.toNat).toNat).toArray⟩) wr:=by
 rw[run_convert_bytes_string wr 40 9 5 _ _ _ Tryz.underlying40 Tryz.underlying5 Tryz.underlying9]
 obtain⟨h1,h2,h3,h4,h5,cs,fr,h6,h7,h8,h9⟩:=h
 have hl:s.data.toList.length=s.size:=(Lib.size_eq s).symm
 have hld:=run_loadCells_list (P:=Tryz.prog) wr ⟨w.heap.size,0,none⟩ ((s.data.toList.map fun b=>kM b.toNat).map (Value.int .u8)) (fun j v hj=>by
  have hlt:=(List.getElem?_eq_some_iff.1 hj).1
  simp[hl]at hlt
  have:=h9 j hlt
  rw[if_pos hlt]at this
  rw[Addr.add_lit]
  simp only[World.cell?,Nat.zero_add,h6]
  have hv:v= .int .u8 (kM (s.data.toList.getD j 0).toNat):=by
   simp only[List.getElem?_map]at hj
   rw[List.getElem?_eq_getElem (by omega)]at hj
   simp at hj
   rw[←hj];simp[List.getD,hlt]
  rw[hv];simpa using this)
 have hlen:((s.data.toList.map fun b=>kM b.toNat).map (Value.int .u8)).length=s.size:=by simp[hl]
 rw[hlen]at hld
 rw[run_bytesToString wr _ _ _ _ hld,bytes_foldl]
 simp[Function.comp_def]
set_option maxHeartbeats 1000000 in
theorem LM (s:ByteArray) (w:World) (hs:s.size<4294967281):Calls Tryz.prog 73 #[.string s] w fun e w' =>
  e= .returned (.string ⟨(s.data.toList.map fun b=>UInt8.ofNat (kM b.toNat).toNat).toArray⟩)∧kH w s s.size w' :=by
 have hconv:=Lib.run_convert_string_bytes (P:=Tryz.prog) w 9 40 5 s Tryz.underlying9 Tryz.underlying40 Tryz.underlying5
 go_enter Tryz.func73,Tryz.ntmps73
 go_wp2
 clear hconv
 go_loopg [9] s.size (fun g s9 wr=>∃k:Nat,s9= .int .i64 k∧k≤s.size∧g=s.size - k∧kH w s k wr)
 case atStart=>exact⟨0,rfl,Nat.zero_le _,rfl,kH.start w s⟩
 case round=>
  obtain⟨k,rfl,hk,rfl,hF⟩:=hrel
  by_cases hlt:k<s.size
  ·have hltz:(k:Int)<(s.size:Int):=by omega
   obtain⟨cs,fr,h6,h7,h8,h9⟩:=hF.row
   have hcell:wr.cell? ⟨w.heap.size,k,none⟩=some (.int .u8 (s.data.toList.getD k 0).toNat):=by
    have:=h9 k hlt
    rw[if_neg (Nat.lt_irrefl _)]at this
    simp only[World.cell?,h6];simpa using this
   have hfz:wr.frozen? ⟨w.heap.size,k,none⟩=false:=by
    unfold World.frozen?
    simp only[h6]
    simp;omega
   have hb:0≤((s.data.toList.getD k 0).toNat:Int)∧((s.data.toList.getD k 0).toNat:Int)<256:=⟨by omega,by have:=(s.data.toList.getD k 0).toNat_lt;omega⟩
   obtain⟨x,hx⟩:∃x:Int,x=((s.data.toList.getD k 0).toNat:Int):=⟨_,rfl⟩
   rw[←hx]at hcell hb
   have HF:Aside (kH w s k wr∧x=((s.data.toList.getD k 0).toNat:Int)):=⟨hF,hx⟩
   clear hF h6 h7 h8 h9 hx
   have h33:=lower_c x hb wr
   go_wp2_with (first|(go_at_call 111;refine h33.mono ?_;rintro e w' ⟨rfl,hw⟩;rw[hw]))
   go_roundg (s.size - (k+1))
   case measure=>go_light;omega
   case rel=>
    go_light
    obtain⟨hF,hx⟩:=HF.out
    refine⟨k+1,by push_cast;rfl,by omega,by omega,?_⟩
    rw[hx]
    exact hF.store hlt
  ·have hltz:¬((k:Int)<(s.size:Int)):=by omega
   obtain rfl:k=s.size:=by omega
   have htx:=hF.text (grownCap w s.size 0 5)
   go_wp2
   go_ret
   exact⟨rfl,hF⟩
end Go.Proofs.YtdoaoaicdimbeaaGreatDoor
end
section
namespace Go.Rg
open Go.RowKit Go.Shelf
structure Kept (T:World→Nat→Prop) (W W' :World):Prop where
 size:W.heap.size≤W'.heap.size
 block:∀j,j<W.heap.size→¬T W j→W'.heap[j]? =W.heap[j]?∧¬T W' j
structure Abides (base:World) (J:Nat→World→Prop) (T:World→Nat→Prop):Prop where
 step:∀i W W' row,J i W→W.grownBy W' row→(∀r,row=some r→base.heap.size≤r∧¬T W r)→J i W'∧∀r,T W' r→T W r
 lt:∀i W r,J i W→T W r→r<W.heap.size
 old:∀i W,J i W→Below base.heap.size base W
def G7 {α:Type} (P:Program) (l:Nat) (enc:α→Value) (xs:List α) (J:Nat→World→Prop) (Jx:World→Prop) (T:World→Nat→Prop):Prop:=
 ∀i x W,xs[i]? =some x→J i W→YieldAt Fence.wide 0 P l #[enc x] W fun e W' =>
  (e= .returned (.bool true)∧J (i+1) W'∧Kept T W W')∨(e= .returned (.bool false)∧Jx W')
def C9 {α:Type} (P:Program) (g:Nat) (lb:Array Value) (enc:α→Value) (xs:List α) (base:World):Prop:=
 ∀(l:Nat) (J:Nat→World→Prop) (Jx:World→Prop) (T:World→Nat→Prop) (W:World),Abides base J T→G7 P l enc xs J Jx T→J 0 W→
  CallsIn Fence.wide 1 P g (#[.func (.yield l) #[] #[]]++lb) W fun e W' =>(∃v,e= .returned v)∧(J xs.length W'∨Jx W')
structure Jy (X:Nat→Prop) (base W:World):Prop where
 size:base.heap.size≤W.heap.size
 block:∀b,b<base.heap.size→¬X b→W.heap[b]? =base.heap[b]?
theorem Jy.cell {X:Nat→Prop} {base W:World} (h:Jy X base W) {p:Addr} (hp:p.block<base.heap.size) (hx:¬X p.block):W.cell? p=base.cell? p:=World.cell?_of_block (h.block _ hp hx)
structure E8 (X:Nat→Prop) (base:World) (J:Nat→World→Prop) (T:World→Nat→Prop):Prop where
 step:∀i W W' row,J i W→W.grownBy W' row→(∀r,row=some r→base.heap.size≤r∧¬T W r)→J i W'∧∀r,T W' r→T W r
 lt:∀i W r,J i W→T W r→r<W.heap.size
 old:∀i W,J i W→Jy X base W
def xZ {α:Type} (X:Nat→Prop) (P:Program) (g:Nat) (lb:Array Value) (enc:α→Value) (xs:List α) (base:World):Prop:=
 ∀(l:Nat) (J:Nat→World→Prop) (Jx:World→Prop) (T:World→Nat→Prop) (W:World),E8 X base J T→G7 P l enc xs J Jx T→J 0 W→
  CallsIn Fence.wide 1 P g (#[.func (.yield l) #[] #[]]++lb) W fun e W' =>(∃v,e= .returned v)∧(J xs.length W'∨Jx W')
theorem xZ.tells {α:Type} {P:Program} {g:Nat} {lb:Array Value} {enc:α→Value} {xs:List α} {base:World} (h:xZ (fun _=>False) P g lb enc xs base):C9 P g lb enc xs base:=
 fun l J Jx T W hab hR h0=>h l J Jx T W ⟨hab.step,hab.lt,fun i W h=>⟨(hab.old i W h).size,fun b hb _=>(hab.old i W h).block b hb⟩⟩ hR h0
theorem grownBy_putObj (W:World) (l:Nat) (o:Obj):W.grownBy (W.putObj l o) (some l):=
 ⟨rfl,rfl,rfl,by simp,fun k _ hk=>World.putObj_heap_other (fun e=>hk (by rw[e]))⟩
theorem grownBy_setCell (W:World) (a:Addr) (v:Value):W.grownBy (W.setCell a v) (some a.block):=
 ⟨rfl,rfl,rfl,by simp[World.setCell],fun k _ hk=>Below.heap_setCell _ _ _ k (fun e=>hk (by rw[e]))⟩
theorem ownsRow_ne {W:World} {base:Nat} {e:TypeId} {size:Nat} {v:Value} {k:Nat} {xs:List Value} (h:W.ownsRow base e size v k xs) {j:Nat} {o:Obj} (hj:W.heap[j]? =some o) (hno:∀cur,o≠ .cells cur e (0,0)):
  v.ownBlock=none∨v.ownBlock≠some j:=by
 rcases h.2 with⟨rfl,_⟩|⟨g,cap,cur,rfl,_,hgb,_⟩
 ·exact .inl rfl
 ·refine .inr fun e' =>?_
  have:g=j:=by simpa[Value.ownBlock]using e'
  subst this;rw[hgb]at hj;cases hj;exact hno cur rfl
theorem ownsRow_base {W:World} {base base' :Nat} {e:TypeId} {size:Nat} {v:Value} {k:Nat} {xs:List Value} (h:W.ownsRow base e size v k xs) (hb:base'≤base):W.ownsRow base' e size v k xs:=by
 refine⟨h.1,?_⟩
 rcases h.2 with hn|⟨g,cap,cur,hv,hbg,rest⟩
 ·exact .inl hn
 ·exact .inr ⟨g,cap,cur,hv,Nat.le_trans hb hbg,rest⟩
structure G8 (base:World) (ts te:TypeId) (size:Nat) (rec:Loop) (Bs l D:Nat) (xs:List Value) (n:Nat) (W:World):Prop where
 box:∃v,Boxed W Bs ts v∧W.ownsRow base.heap.size te size v n xs∧(v= .slice none 0 0↔n=0)
 L:W.heap[l]? =some (.loop rec)
 K:W.heap[D]? =some (.deferred (some []))
 below:Below base.heap.size base W
def G9 (ts:TypeId) (Bs l D:Nat) (W:World) (r:Nat):Prop:=r<W.heap.size∧(r=Bs∨r=l∨r=D∨∃v,Boxed W Bs ts v∧v.ownBlock=some r)
theorem Da (base:World) (ts te:TypeId) (size:Nat) (rec:Loop) (Bs l D:Nat) (f:Nat→List Value):Abides base (fun i W=>G8 base ts te size rec Bs l D (f i) i W) (G9 ts Bs l D) where
 step:=fun i W W' row h hg hrow=>by
  obtain⟨v,hv,hr,hn⟩:=h.box
  have hlt:=hv.lt
  have hll:l<W.heap.size:=(Array.getElem?_eq_some_iff.1 h.L).1
  have hKl:D<W.heap.size:=(Array.getElem?_eq_some_iff.1 h.K).1
  have hB:W'.heap[Bs]? =W.heap[Bs]? :=hg.block Bs hlt fun e=>(hrow Bs e.symm).2 ⟨hlt, .inl rfl⟩
  refine⟨⟨⟨v,hB.trans hv,hr.kept hg ?_,hn⟩,(hg.block l hll fun e=>(hrow l e.symm).2 ⟨hll, .inr (.inl rfl)⟩).trans h.L,
   (hg.block D hKl fun e=>(hrow D e.symm).2 ⟨hKl, .inr (.inr (.inl rfl))⟩).trans h.K,h.below.grown hg h.below.size fun k e=>(hrow k e).1⟩,?_⟩
  ·cases hvb:v.ownBlock with
   |none=>exact .inl rfl
   |some g=>
    right
    intro e
    exact(hrow g e.symm).2 ⟨(hr.lt g hvb).2, .inr (.inr (.inr ⟨v,hv,hvb⟩))⟩
  ·rintro r ⟨hr',h1⟩
   have hall:r=Bs∨r=l∨r=D∨v.ownBlock=some r:=by
    rcases h1 with h1|h1|h1|⟨v',hv',h1⟩
    ·exact .inl h1
    ·exact .inr (.inl h1)
    ·exact .inr (.inr (.inl h1))
    ·have:v' =v:=by
      have h2:Boxed W Bs ts v' :=hB.symm.trans hv'
      have h3:=h2.symm.trans hv
      simpa using h3
     subst this
     exact .inr (.inr (.inr h1))
   rcases hall with rfl|rfl|rfl|h1
   ·exact⟨hlt, .inl rfl⟩
   ·exact⟨hll, .inr (.inl rfl)⟩
   ·exact⟨hKl, .inr (.inr (.inl rfl))⟩
   ·exact⟨(hr.lt r h1).2, .inr (.inr (.inr ⟨v,hv,h1⟩))⟩
 lt:=fun i W r _ ht=>ht.1
 old:=fun i W h=>h.below
section
variable {P : Program} (w : World)
theorem BU (base:Nat) (t ty e:TypeId) (i:TypeInfo) (z:Value) (size bytes:Nat) (ht:P.underlying t=some (.slice e)) (hi:P.info? e=some i) (hz:i.zero=some z)
  (hsize:i.size=size) (hby:i.bytes=bytes)
  (v:Value) (n:Nat) (xs:List Value) (hown:w.ownsRow base e size v n xs)
  (a:Addr) (m c:Nat) (news:List Value) (hl:news.length=m*size) (hnews:∀j u,news[j]? =some u→w.cell? (a.add j)=some u) (h1:∀u∈news,u.oneCell' =true)
  (h63:n+m≤maxLen) (hbytes:(n+m)*bytes≤140737488355328) (hm:0<m) (v' :Value) (w' :World)
  (hrun:(Builtin.append_ #[t,t] ty #[v, .slice (some a) m c]).run P w= .ok v' w'):v'.ownBlock=v.ownBlock∨v'.ownBlock=some w.heap.size:=by
 subst hsize
 subst hby
 have hsmall:n+m≤9223372036854775807:=by simp only[maxLen]at h63;omega
 rcases hown.2 with⟨rfl,rfl⟩|⟨g,cap,cur,rfl,hbg,hg,hnc,hcm,hcs,htake⟩
 ·have hx:xs=[]:=List.eq_nil_of_length_eq_zero (by simpa using hown.1)
  subst hx
  have hr:=run_append_nil (P:=P) w t ty e i z ht hi hz a m c news hl hnews (by omega) (by omega) (by have hb:=hbytes;simp only[Nat.zero_add]at hb;omega)
  rw[hr]at hrun
  cases hrun
  exact .inr rfl
 ·by_cases hroom:n+m≤cap
  ·have hfit:n*i.size+news.length≤cur.size:=by rw[hl,hcs,←Nat.add_mul];exact Nat.mul_le_mul_right _ hroom
   have hr:=run_append_room (P:=P) w t ty e i ht hi g n cap cur hg a m c news hl hnews h1 hroom hfit
   rw[hr]at hrun
   cases hrun
   exact .inl rfl
  ·have holds:∀j u,xs[j]? =some u→w.cell? ((⟨g,0,none⟩:Addr).add j)=some u:=hown.cells (g:=g) rfl
   have hr:=run_append_grow (P:=P) w t ty e i z ht hi hz ⟨g,0,none⟩ n cap xs hown.1 holds a m c news hl hnews (by omega) (by omega) (growslice_fits (by omega) hbytes)
   rw[hr]at hrun
   cases hrun
   exact .inr rfl
end
theorem nI {F:Fence} {n:Nat} {P:Program} (w:World) {ops:Array Oper} {rest:List Oper} {o:Oper} {a:Act} {Q:Exit→Act→World→Prop}
  (hg:o.guard=none) (s x:Operand) (t:TypeId) (hop:o.op=Op.call { callee:=Callee.builtin Builtin.append,args:=#[s,x],argTypes:=#[t,t] })
  (base:Nat) (e:TypeId) (i:TypeInfo) (z:Value) (size bytes:Nat) (h1:P.underlying t=some (.slice e)) (h2:P.info? e=some i) (h3:i.zero=some z) (h4:i.size=size) (h5:i.bytes=bytes) (h6:z.cells.size=size) (h7:0<size)
  (v:Value) (k:Nat) (xs:List Value) (hs:a.eval s=v) (hown:w.ownsRow base e size v k xs) (ad:Addr) (m c:Nat) (news:List Value) (hx:a.eval x= .slice (some ad) m c) (hn:news.length=m*size)
  (hm:0<m) (hc:∀j u,news[j]? =some u→w.cell? (ad.add j)=some u) (h1c:∀u∈news,u.oneCell' =true) (b1:k+m≤maxLen) (b2:(k+m)*bytes≤140737488355328) (b3:base≤w.heap.size)
  (hK:∀v' w',w'.ownsRow base e size v' (k+m) (xs++news)→w.grownBy w' v.ownBlock→(v'.ownBlock=v.ownBlock∨v'.ownBlock=some w.heap.size)→wpListIn F n P ops Q rest (a.put o.dst v') w'):
  wpListIn F n P ops Q (o::rest) a w:=by
 refine wpListIn_plain hg fun K hK' =>?_
 obtain⟨v',w',hrun,r1,r2,r3⟩:=run_append_own (P:=P) w base t o.type e i z size bytes h1 h2 h3 h4 h5 h6 h7 v k xs hown ad m c news hn hc h1c b1 b2 b3
 have r4:=BU (P:=P) w base t o.type e i z size bytes h1 h2 h3 h4 h5 v k xs hown ad m c news hn hc h1c b1 b2 hm v' w' hrun
 unfold Oper.wpIn
 refine⟨?_,?_⟩
 ·simp[Oper.about,hop,resolve,Target.leads,Sem.run_pure]
 ·rw[Oper.semAt_plain F _ _ (by rw[hop];intro c hc';cases hc')]
  simp[execOp,hop,resolve,invoke,builtin,hs,hx,hrun,Result.andThen]
  exact hK' _ _ (hK v' w' r1 r2 r4)
end Go.Rg
end
section
namespace Go.Proofs.YtdoaoaicdimbeaaGreatDoor
open Go.RowKit Go.Shelf Go.Rg
attribute [local go_sem] Oper.semAt_some
def iP (x:Nat×Nat×Nat):Value:= .agg #[.int .i64 x.1, .int .i64 x.2.1, .int .i64 x.2.2]
def tR (x:Nat×Nat×Nat):List Value:=[.int .i64 x.1, .int .i64 x.2.1, .int .i64 x.2.2]
noncomputable def apAssign : Code := (Code.region 2 #[{ dst := some 5, op := Op.alloc 134, type := 0, pos := "iter.go:51", after := #[], guard := none }, { dst := none, op := Op.store 134 (Operand.tmp 5) (Operand.tmp 7), type := 0, pos := "iter.go:51", after := #[{ on := 0, ground := Ground.data }, { on := 0, ground := Ground.phase }], guard := none }] false)
noncomputable def apBody : Code := (Code.block 1 (Code.region 3 #[{ dst := some 8, op := Op.load 131 (Operand.tmp 2), type := 131, pos := "iter.go:52", after := #[], guard := none }, { dst := some 9, op := Op.load 134 (Operand.tmp 5), type := 134, pos := "iter.go:52", after := #[], guard := none }, { dst := some 10, op := Op.buildSlice 131 1 #[(0, Operand.tmp 9)], type := 131, pos := "iter.go:52", after := #[{ on := 1, ground := Ground.data }], guard := none }, { dst := some 11, op := Op.call { callee := Callee.builtin Builtin.append, args := #[Operand.tmp 8, Operand.tmp 10], argTypes := #[131, 131] }, type := 131, pos := "iter.go:52", after := #[{ on := 0, ground := Ground.data }, { on := 2, ground := Ground.data }], guard := none }, { dst := none, op := Op.store 131 (Operand.tmp 2) (Operand.tmp 11), type := 0, pos := "iter.go:52", after := #[{ on := 3, ground := Ground.data }, { on := 3, ground := Ground.chain }, { on := 0, ground := Ground.phase }, { on := 1, ground := Ground.phase }, { on := 2, ground := Ground.phase }, { on := 3, ground := Ground.phase }], guard := none }] false))
noncomputable def apRec (fn:FuncId) (sv:Value) (Bs D:Nat) (st:LoopState) (pend:Option Code):Loop:=
 { state:=st,pending:=pend,fn,tmps:=#[.slice none 0 0,sv, .pointer (some ⟨Bs,0,none⟩),undef, .slice none 0 0,undef,sv,undef,undef,undef,undef,undef,undef],params:=#[7],assign:=apAssign,body:=apBody,defers:=D }
theorem LN:(Tryz.prog.info? 134).map (fun i=>(i.zero,i.size,i.bytes))=some (some (.agg #[.int .i64 0, .int .i64 0, .int .i64 0]),3,24):=by kernel_rfl
set_option maxRecDepth 100000 in
set_option maxHeartbeats 2000000 in
theorem apYield (base:World) (fn:FuncId) (sv:Value) (Bs l D:Nat) (hBl:Bs≠l) (hDl:D≠l) (hDB:D≠Bs) (h0B:base.heap.size≤Bs) (h0l:base.heap.size≤l)
  (N:Nat) (hN:N≤maxLen) (hNb:N*24≤140737488355328) (xs:List Value) (n:Nat) (x:Nat×Nat×Nat) (W:World) (h:G8 base 131 134 3 (apRec fn sv Bs D .ready none) Bs l D xs n W) (hlen:n<N):
  YieldAt Fence.wide 0 Tryz.prog l #[iP x] W fun e W' =>e= .returned (.bool true)∧G8 base 131 134 3 (apRec fn sv Bs D .ready none) Bs l D (xs++tR x) (n+1) W'∧Kept (G9 131 Bs l D) W W' :=by
 obtain⟨i0,hi,hz0,hz1,hz2⟩:=info_parts LN
 obtain⟨v,hv,hrow,_⟩:=h.box
 refine⟨fn,#[.slice none 0 0,sv, .pointer (some ⟨Bs,0,none⟩),undef, .slice none 0 0,undef,sv,iP x,undef,undef,undef,undef,undef],apAssign,apBody,by simpa[apRec]using run_yield (P:=Tryz.prog) (args:=#[iP x]) h.L rfl,roundIn_of_wpIn trivial ?_⟩
 have hl:l<W.heap.size:=(Array.getElem?_eq_some_iff.1 h.L).1
 unfold apAssign iP
 gi_wp2_with (rw[Oper.semAt_eq _ _ _ (fun c h=>by cases h)];go_simp;try go_bits)
 obtain⟨Wa,hWa⟩:∃Wa,W.alloc (.cells #[.int .i64 x.1, .int .i64 x.2.1, .int .i64 x.2.2] 134)=Wa:=⟨_,rfl⟩
 have hsa:Wa.heap.size=W.heap.size+1:=by rw[←hWa];simp
 have hga:W.grownBy Wa none:=by rw[←hWa];exact World.grownBy_alloc _ _ _
 have hxa:Wa.heap[W.heap.size]? =some (.cells #[.int .i64 x.1, .int .i64 x.2.1, .int .i64 x.2.2] 134 (0,0)):=by rw[←hWa];exact World.alloc_heap_new W _
 rw[hWa]
 clear hWa
 have hLa:=(hga.block l hl (by simp)).trans h.L
 have hla:l<Wa.heap.size:=by omega
 have hbr:=run_beginRound (P:=Tryz.prog) hLa rfl
 obtain⟨W2,hW2⟩:∃W2,Wa.putObj l (.loop { apRec fn sv Bs D .ready none with state:= .busy })=W2:=⟨_,rfl⟩
 rw[hW2]at hbr
 have hga2:Wa.grownBy W2 (some l):=by rw[←hW2];exact grownBy_putObj _ _ _
 have hs2:W2.heap.size=W.heap.size+1:=by rw[←hW2];simp[World.putObj,hsa]
 have hva:Boxed Wa Bs 131 v:=hv.kept hga (by simp)
 have hv2:Boxed W2 Bs 131 v:=hva.kept hga2 (by simpa using hBl)
 have hxlt:W.heap.size<Wa.heap.size:=by omega
 have hxl:W.heap.size≠l:=by omega
 have hx2:W2.heap[W.heap.size]? =some (.cells #[.int .i64 x.1, .int .i64 x.2.1, .int .i64 x.2.2] 134 (0,0)):=(hga2.block _ hxlt (by simpa using hxl)).trans hxa
 have hKl:D<W.heap.size:=(Array.getElem?_eq_some_iff.1 h.K).1
 have hK2:W2.heap[D]? =some (.deferred (some [])):=(hga2.block D (by omega) (by simpa using hDl)).trans ((hga.block D hKl (by simp)).trans h.K)
 have hL2:W2.heap[l]? =some (.loop { apRec fn sv Bs D .ready none with state:= .busy }):=by rw[←hW2];exact World.putObj_heap_same hla
 have hrowa:Wa.ownsRow base.heap.size 134 3 v n xs:=hrow.kept hga (by cases v.ownBlock<;>simp)
 have hrow2:W2.ownsRow base.heap.size 134 3 v n xs:=hrowa.kept hga2 (ownsRow_ne hrowa hLa (fun cur e=>by cases e))
 have hb2:Below base.heap.size base W2:=(h.below.grown hga h.below.size (fun k e=>by cases e)).grown hga2 (by have:=h.below.size;omega) (fun k e=>by cases e;exact h0l)
 have hc2:=hv2.cell
 have hf2:=hv2.frozen
 have hx20:W2.cell? ⟨W.heap.size,0,none⟩=some (.int .i64 x.1):=by simp[World.cell?,hx2]
 have hx21:W2.cell? ⟨W.heap.size,1,none⟩=some (.int .i64 x.2.1):=by simp[World.cell?,hx2]
 have hx22:W2.cell? ⟨W.heap.size,2,none⟩=some (.int .i64 x.2.2):=by simp[World.cell?,hx2]
 clear hW2
 have HS2:Hid (W2.heap.size=W.heap.size+1):=hs2
 clear hs2
 refine⟨W2,hbr,?_⟩
 unfold apBody
 gi_wp2_with (first
  |(gi_at_builtin;refine nI _ rfl _ _ 131 rfl base.heap.size 134 i0 (.agg #[.int .i64 0, .int .i64 0, .int .i64 0]) 3 24 Tryz.underlying131 hi hz0 hz1 hz2 rfl (by decide) _ _ _ rfl (hrow2.alloc _) ⟨W2.heap.size,0,none⟩ 1 1 (tR x) rfl rfl (by decide) ?c1 ?c2 ?c3 ?c4 ?c5 ?_
    case c1=>intro j u hu;rw[Addr.add_lit];have:=World.alloc_heap_new W2 (.cells #[.int .i64 x.1, .int .i64 x.2.1, .int .i64 x.2.2] 134);simp only[World.cell?,Nat.zero_add];rw[this];exact(by simpa[tR]using hu)
    case c2=>intro u hu;simp[tR]at hu;rcases hu with rfl|rfl|rfl<;>rfl
    case c3=>omega
    case c4=>omega
    case c5=>have:=hb2.size;simp;omega
    intro v' w3 hown' hg3 hwh
    have hv2a:=hv2.alloc (.cells #[.int .i64 x.1, .int .i64 x.2.1, .int .i64 x.2.2] 134)
    have hv3:Boxed w3 Bs 131 v:=hv2a.kept hg3 (hv2.not_row (by decide) hrow2)
    have hc3:=hv3.cell
    have hf3:=hv3.frozen
    obtain⟨g',cap',rfl⟩:=ownsRow_succ hown'
    simp only[Act.put,List.setIfInBounds_toArray,List.set_cons_succ,List.set_cons_zero])
  |(rw[Oper.semAt_eq _ _ _ (fun c h=>by cases h)];go_simp;try go_bits))
 have hs2:=HS2.out
 have hg3' :(W2.alloc (.cells #[.int .i64 x.1, .int .i64 x.2.1, .int .i64 x.2.2] 134)).grownBy w3 v.ownBlock:=hg3
 have ne_of:∀{j:Nat} {o:Obj},W2.heap[j]? =some o→(∀cur,o≠ .cells cur 134 (0,0))→some j≠v.ownBlock:=fun hj hno=>by
  rcases ownsRow_ne hrow2 hj hno with e|e
  ·rw[e];simp
  ·exact fun e' =>e e'.symm
 have hl2:l<W2.heap.size:=by omega
 have hD2:D<W2.heap.size:=by omega
 have hL3:w3.heap[l]? =some (.loop { apRec fn sv Bs D .ready none with state:= .busy }):=(hg3'.block l (by simp;omega) (ne_of hL2 (fun cur e=>by cases e))).trans ((Below.heap_alloc _ _ l hl2).trans hL2)
 have hK3:w3.heap[D]? =some (.deferred (some [])):=(hg3'.block D (by simp;omega) (ne_of hK2 (fun cur e=>by cases e))).trans ((Below.heap_alloc _ _ D hD2).trans hK2)
 have hs3:W.heap.size+2≤w3.heap.size:=by have:=hg3'.size;simp at this;omega
 obtain⟨w4,hw4⟩:∃w4,w3.setCell ⟨Bs,0,none⟩ (.slice (some ⟨g',0,none⟩) (n+1) cap')=w4:=⟨_,rfl⟩
 rw[hw4]
 have hg4:w3.grownBy w4 (some Bs):=by rw[←hw4];exact grownBy_setCell _ _ _
 have hv4:Boxed w4 Bs 131 (.slice (some ⟨g',0,none⟩) (n+1) cap'):=by rw[←hw4];exact hv3.set _
 have hL4:w4.heap[l]? =some (.loop { apRec fn sv Bs D .ready none with state:= .busy }):=(hg4.block l (Array.getElem?_eq_some_iff.1 hL3).1 (fun e=>hBl (by cases e;rfl))).trans hL3
 have hK4:w4.heap[D]? =some (.deferred (some [])):=(hg4.block D (Array.getElem?_eq_some_iff.1 hK3).1 (fun e=>hDB (by cases e;rfl))).trans hK3
 have hrow4:=hown'.kept hg4 (.inr (hv3.not_row (by decide) hown').symm)
 have hs4:w3.heap.size=w4.heap.size:=by rw[←hw4];simp[World.setCell]
 have hl4:l<w4.heap.size:=by omega
 have hb3:Below base.heap.size base w3:=(hb2.alloc hb2.size _).grown hg3' (by have:=hb2.size;simp;omega) (fun k e=>(hrow2.lt k e).1)
 have hb4:Below base.heap.size base w4:=hb3.grown hg4 hb3.size (fun k e=>by cases e;exact h0B)
 clear hw4
 have hg5:w4.grownBy (w4.putObj l (.loop { { apRec fn sv Bs D .ready none with state:= .busy } with state:=if(none:Option Code).isNone then .ready else .done,pending:=none })) (some l):=grownBy_putObj _ _ _
 have hv5:=hv4.kept hg5 (by simpa using hBl)
 have hrow5:=hrow4.kept hg5 (ownsRow_ne hrow4 hL4 (fun cur e=>by cases e))
 refine⟨_,_,run_endRound none hL4,rfl,⟨⟨_,hv5,hrow5,by simp⟩,World.putObj_heap_same hl4,(World.putObj_heap_other hDl).trans hK4,hb4.grown hg5 hb4.size (fun k e=>by cases e;exact h0l)⟩,?_,?_⟩
 ·exact Nat.le_trans (by omega) hg5.size
 ·intro j hj hT
  have hjB:j≠Bs:=fun e=>hT ⟨hj, .inl e⟩
  have hjl:j≠l:=fun e=>hT ⟨hj, .inr (.inl e)⟩
  have hjD:j≠D:=fun e=>hT ⟨hj, .inr (.inr (.inl e))⟩
  have hjv:some j≠v.ownBlock:=fun e=>hT ⟨hj, .inr (.inr (.inr ⟨v,hv,e.symm⟩))⟩
  have e1:=hga.block j hj (by simp)
  have e2:=hga2.block j (by omega) (by simpa using hjl)
  have e3:=Below.heap_alloc W2 (.cells #[.int .i64 x.1, .int .i64 x.2.1, .int .i64 x.2.2] 134) j (by omega)
  have e4:=hg3'.block j (by simp;omega) hjv
  have e5:=hg4.block j (by omega) (by simpa using hjB)
  have e6:=hg5.block j (by omega) (by simpa using hjl)
  refine⟨e6.trans (e5.trans (e4.trans (e3.trans (e2.trans e1)))),?_⟩
  rintro⟨_,h1|h1|h1|⟨v',hv',h1⟩⟩
  ·exact hjB h1
  ·exact hjl h1
  ·exact hjD h1
  ·have h3:=(show _=_ from hv').symm.trans hv5
   simp at h3
   subst h3
   have hwh' :(some g' =v.ownBlock∨some g' =some (W2.alloc (.cells #[.int .i64 x.1, .int .i64 x.2.1, .int .i64 x.2.2] 134)).heap.size):=hwh
   have h1' :g' =j:=by simpa[Value.ownBlock]using h1
   subst h1'
   rcases hwh' with e|e
   ·exact hjv e
   ·simp at e;omega
end Go.Proofs.YtdoaoaicdimbeaaGreatDoor
end
section
namespace Go.Proofs.YtdoaoaicdimbeaaGreatDoor
open Go.RowKit Go.Shelf Go.Rg
attribute [local go_sem] Oper.semAt_some
def fP (xs:List (Nat×Nat×Nat)):List Value:=xs.flatMap tR
set_option maxRecDepth 100000 in
set_option maxHeartbeats 2000000 in
theorem appendSeq_in (g:Nat) (lb:Array Value) (eg:∀args w,(callFunc g args).run Tryz.prog w= .ok (.enter g args) w)
  (xs:List (Nat×Nat×Nat)) (hN:xs.length≤maxLen) (hNb:xs.length*24≤140737488355328) (w:World) (hseq:C9 Tryz.prog g lb iP xs w):
  CallsIn Fence.wide 2 Tryz.prog 136 #[.slice none 0 0, .func (.func g) #[] lb] w fun e w' =>∃v:Value,e= .returned v∧w'.ownsRow w.heap.size 134 3 v xs.length (fP xs)∧Below w.heap.size w w' :=by
 refine callsIn_of_wp_marks Tryz.func136 rfl trivial ?_ rfl
 simp only[Tryz.ntmps136,List.size_toArray,List.length_cons,List.length_nil,Nat.reduceAdd,Nat.reduceSub,Array.replicate_succ,Array.replicate_zero,List.push_toArray,List.append_toArray,List.nil_append,List.cons_append]
 gi_wp2
 refine wpIn_rangeFunc ?_
 intro fn hfn
 obtain⟨W0,hW0⟩:∃W0,w.alloc (.cells #[.slice none 0 0] 131)=W0:=⟨_,rfl⟩
 have hs0:W0.heap.size=w.heap.size+1:=by rw[←hW0];simp
 have hv0:W0.heap[w.heap.size]? =some (.cells #[.slice none 0 0] 131 (0,0)):=by rw[←hW0];exact World.alloc_heap_new w _
 have hb0:Below w.heap.size w W0:=by rw[←hW0];exact(Below.refl _ w).alloc (Nat.le_refl _) _
 rw[hW0]
 obtain⟨W1,hW1⟩:∃W1,(W0.alloc (.deferred (some []))).alloc (.loop (apRec fn (.func (.func g) #[] lb) w.heap.size W0.heap.size .ready none))=W1:=⟨_,rfl⟩
 have hold:∀k,k<W0.heap.size→W1.heap[k]? =W0.heap[k]? :=fun k hk=>by
  rw[←hW1];exact(Below.heap_alloc _ _ k (by simp;omega)).trans (Below.heap_alloc _ _ k hk)
 have hb1:Below w.heap.size w W1:=by rw[←hW1];exact(hb0.alloc hb0.size _).alloc (by have:=hb0.size;simp;omega) _
 have hs1:W1.heap.size=W0.heap.size+2:=by rw[←hW1];simp
 have hM:G8 w 131 134 3 (apRec fn (.func (.func g) #[] lb) w.heap.size W0.heap.size .ready none) w.heap.size (W0.heap.size+1) W0.heap.size (fP (xs.take 0)) 0 W1:=
  ⟨⟨_,(hold w.heap.size (by omega)).trans hv0,⟨rfl, .inl ⟨rfl,rfl⟩⟩,by simp⟩,
   by rw[←hW1];have:=World.alloc_heap_new (W0.alloc (.deferred (some []))) (.loop (apRec fn (.func (.func g) #[] lb) w.heap.size W0.heap.size .ready none));rwa [World.size_alloc]at this,
   by rw[←hW1];exact(Below.heap_alloc _ _ _ (by simp)).trans (World.alloc_heap_new W0 _),hb1⟩
 refine⟨W0.heap.size+1,[{ target:= .collected W0.heap.size,args:=#[] }],W1,{ target:= .fn (.func g) lb,args:=#[.func (.yield (W0.heap.size+1)) #[] #[]] },W1,g,
  #[.func (.yield (W0.heap.size+1)) #[] #[]]++lb,W1,?_,?_,?_,?_,fun h=>by simp[Fence.wide]at h,?_⟩
 ·rw[←hW1];exact run_enterLoop_outer _ _ _ _ _
 ·simp[resolve,go_sem]
 ·intro f' hf';trivial
 ·simp[invoke,go_sem,eg]
 ·refine(hseq (W0.heap.size+1) (fun i W=>G8 w 131 134 3 (apRec fn (.func (.func g) #[] lb) w.heap.size W0.heap.size .ready none) w.heap.size (W0.heap.size+1) W0.heap.size (fP (xs.take i)) i W) (fun _=>False) (G9 131 w.heap.size (W0.heap.size+1) W0.heap.size) W1
   (Da _ _ _ _ _ _ _ _ _) ?_ hM).mono ?_
  ·intro i x W hx hJ
   have hi:=(List.getElem?_eq_some_iff.1 hx).1
   have:=apYield w fn (.func (.func g) #[] lb) w.heap.size (W0.heap.size+1) W0.heap.size (by omega) (by omega) (by omega) (Nat.le_refl _) (by omega) xs.length hN hNb (fP (xs.take i)) i x W hJ hi
   have e:fP (xs.take (i+1))=fP (xs.take i)++tR x:=by
    rw[List.take_add_one,hx]
    simp[fP]
   obtain⟨fn',tmps',as',bd',hy,hR⟩:=this
   refine⟨fn',tmps',as',bd',hy,hR.mono ?_⟩
   rintro e' W' ⟨rfl,hc,hk⟩
   exact .inl ⟨rfl,by dsimp only;rw[e];exact hc,hk⟩
  rintro e W2 ⟨⟨v0,rfl⟩,h2⟩
  replace h2:=h2.resolve_right id
  rw[List.take_length]at h2
  obtain⟨v,hv,hrow,hnil⟩:=h2.box
  have hend:=run_endLoop (P:=Tryz.prog) h2.L (by simp[apRec])
  obtain⟨W3,hW3⟩:∃W3,W2.putObj (W0.heap.size+1) (.loop { apRec fn (.func (.func g) #[] lb) w.heap.size W0.heap.size .ready none with state:= .exhausted })=W3:=⟨_,rfl⟩
  rw[hW3]at hend
  have hg3:W2.grownBy W3 (some (W0.heap.size+1)):=by rw[←hW3];exact grownBy_putObj _ _ _
  have hv3:Boxed W3 w.heap.size 131 v:=hv.kept hg3 (by simp;omega)
  have hK3:W3.heap[W0.heap.size]? =some (.deferred (some [])):=by rw[←hW3];exact(World.putObj_heap_other (by omega)).trans h2.K
  have hrow3:=hrow.kept hg3 (ownsRow_ne hrow h2.L (fun cur e=>by cases e))
  have hb3:Below w.heap.size w W3:=h2.below.grown hg3 h2.below.size (fun k e=>by cases e;omega)
  have hc3:=hv3.cell
  have hf3:=hv3.frozen
  clear hW3
  refine⟨none,W3,hend,?_⟩
  gi_wp2
  rw[←hs0]
  refine⟨by simp, .inl ⟨_,_,rfl,run_takeDeferred hK3,?_⟩⟩
  exact⟨_,results_tmp rfl _ _ _,v,rfl,hrow3.kept (grownBy_putObj _ _ _) (ownsRow_ne hrow3 hK3 (fun cur e=>by cases e)),hb3.grown (grownBy_putObj _ _ _) hb3.size (fun k e=>by cases e;omega)⟩
set_option maxHeartbeats 1000000 in
theorem collect_in (g:Nat) (lb:Array Value) (eg:∀args w,(callFunc g args).run Tryz.prog w= .ok (.enter g args) w)
  (xs:List (Nat×Nat×Nat)) (hN:xs.length≤maxLen) (hNb:xs.length*24≤140737488355328) (w:World) (hseq:C9 Tryz.prog g lb iP xs w):
  Calls Tryz.prog 101 #[.func (.func g) #[] lb] w fun e w' =>∃v:Value,e= .returned v∧w'.ownsRow w.heap.size 134 3 v xs.length (fP xs)∧Below w.heap.size w w' :=by
 go_enter Tryz.func101,Tryz.ntmps101
 go_wp2_with (first|(go_at_call 136;refine(callsIn_wide.1 (appendSeq_in g lb eg xs hN hNb _ hseq)).mono ?_;rintro e w' ⟨v,rfl,hrow,hb⟩))
 go_ret
 exact⟨v,rfl,hrow,hb⟩
theorem tU {F:Fence} {n:Nat} {P:Program} {g:Operand} {ps:Array Tmp} {assign body:Code} {Q:Exit→Act→World→Prop} {a:Act} {w:World}
  (hro:F.round=none) (h1:1≤n) {gf:Nat} {lb:Array Value} (hg:a.eval g= .func (.func gf) #[] lb) (hFg:F.fn gf) (eg:∀args w,(callFunc gf args).run P w= .ok (.enter gf args) w)
  (h:∀(fn:FuncId) (rec:Loop) (W1:World),rec={ state:= .ready,pending:=none,fn,tmps:=a.tmps,params:=ps,assign,body,defers:=w.heap.size }→W1=(w.alloc (.deferred (some []))).alloc (.loop rec)→
   CallsIn F (n - 1) P gf (#[.func (.yield (w.heap.size+1)) #[] #[]]++lb) W1 (rangePost F n P (w.heap.size+1) Q { a with defers:=[{ target:= .collected w.heap.size,args:=#[] }]++a.defers })):
  (Code.rangeFunc g ps assign body).wpIn F n P Q a w:=by
 refine wpIn_rangeFunc ?_
 intro fn hfn
 rw[hro]
 obtain⟨rec,hrec⟩:∃rec:Loop,rec={ state:= .ready,pending:=none,fn,tmps:=a.tmps,params:=ps,assign,body,defers:=w.heap.size }:=⟨_,rfl⟩
 obtain⟨W1,hW1⟩:∃W1,W1=(w.alloc (.deferred (some []))).alloc (.loop rec):=⟨_,rfl⟩
 have hcall:=h fn rec W1 hrec hW1
 refine⟨w.heap.size+1,[{ target:= .collected w.heap.size,args:=#[] }],W1,{ target:= .fn (.func gf) lb,args:=#[.func (.yield (w.heap.size+1)) #[] #[]] },W1,gf,
  #[.func (.yield (w.heap.size+1)) #[] #[]]++lb,W1,?_,?_,?_,?_,fun _=>h1,?_⟩
 ·rw[hW1,hrec];exact run_enterLoop_outer _ _ _ _ _
 ·simp only[resolve,hg]
  simp[go_sem]
 ·intro f' hf';simp[Target.leads]at hf';subst hf';exact hFg
 ·simp[invoke,go_sem,eg]
 ·exact hcall
end Go.Proofs.YtdoaoaicdimbeaaGreatDoor
end
section
namespace Go.Proofs.YtdoaoaicdimbeaaGreatDoor
open Go.RowKit Go.Shelf Go.Rg
theorem jQ:∀{l:List UInt8} {c:UInt8} {o:Nat},l[o]? =some c→(∀k,k<o→l[k]?≠some c)→Lib.indexByte l c=o
 |[],_,o,h,_=>by simp at h
 |b::l,c,0,h,_=>by
  simp at h
  subst h
  simp[Lib.indexByte]
 |b::l,c,o+1,h,hn=>by
  have h0:b≠c:=fun e=>hn 0 (by omega) (by simp[e])
  have ih:=jQ (l:=l) (o:=o) (by simpa using h) fun k hk=>by have:=hn (k+1) (by omega);simpa using this
  unfold Lib.indexByte
  have hb:(b==c)=false:=by simpa using h0
  rw[hb,ih]
  have:((o:Int)== -1)=false:=by simp
  simp[this]
theorem qL:∀{l:List UInt8} {c:UInt8},(∀k,k<l.length→l[k]?≠some c)→Lib.indexByte l c= -1
 |[],_,_=>rfl
 |b::l,c,hn=>by
  have h0:b≠c:=fun e=>hn 0 (by simp) (by simp[e])
  have ih:=qL (l:=l) (c:=c) fun k hk=>by have:=hn (k+1) (by simpa using hk);simpa using this
  unfold Lib.indexByte
  have hb:(b==c)=false:=by simpa using h0
  simp[hb,ih]
set_option maxHeartbeats 1000000 in
theorem F9 (w:World) (b off cap:Nat) (bs:List UInt8) (v:UInt8) (hc:∀j x,bs[j]? =some x→w.cell? ⟨b,off+j,none⟩=some (.int .u8 x.toNat)) (hlen:bs.length<9223372036854775807):
  Calls Tryz.prog 124 #[.slice (some ⟨b,off,none⟩) bs.length cap, .int .u8 v.toNat] w fun e w' =>e= .returned (.int .i64 (Lib.indexByte bs v))∧w' =w:=by
 have HC:Aside (∀j x,bs[j]? =some x→w.cell? ⟨b,off+j,none⟩=some (.int .u8 x.toNat)):=hc
 clear hc
 go_enter Tryz.func124,Tryz.ntmps124
 go_wp2
 go_loopg [8] bs.length (fun g s8 wr=>∃k:Nat,s8= .int .i64 k∧k≤bs.length∧g=bs.length - k∧wr=w∧Aside (∀j,j<k→bs[j]?≠some v))
 case atStart=>exact⟨0,rfl,Nat.zero_le _,rfl,rfl,fun j hj=>by omega⟩
 case round=>
  obtain⟨k,rfl,hk,rfl,rfl,hn⟩:=hrel
  by_cases hlt:k<bs.length
  ·have hltz:(k:Int)<(bs.length:Int):=by omega
   have hcx:=HC.out k bs[k] (by simp[hlt])
   by_cases hv:bs[k]=v
   ·have hq:((v.toNat:Int)==(bs[k].toNat:Int))=true:=by rw[hv];simp
    go_wp2
    go_ret
    have e:=jQ (o:=k) (c:=v) (l:=bs) (by simp[hlt,hv]) hn.out
    exact⟨by rw[e];rfl,rfl⟩
   ·have hq:((v.toNat:Int)==(bs[k].toNat:Int))=false:=by
     have:v.toNat≠bs[k].toNat:=fun e=>hv (UInt8.toNat_inj.1 e.symm)
     exact beq_eq_false_iff_ne.2 (by omega)
    go_wp2
    go_roundg (bs.length - (k+1))
    case measure=>go_light;omega
    case rel=>
     go_light
     refine⟨k+1,by push_cast;rfl,by omega,by omega,rfl,fun j hj=>?_⟩
     rcases Nat.lt_or_ge j k with h|h
     ·exact hn.out j h
     ·obtain rfl:j=k:=by omega
      simp[hlt,hv]
  ·have hltz:¬((k:Int)<(bs.length:Int)):=by omega
   go_wp2
   go_ret
   obtain rfl:k=bs.length:=by omega
   have e:=qL hn.out
   exact⟨by rw[e];rfl,rfl⟩
end Go.Proofs.YtdoaoaicdimbeaaGreatDoor
end
section
namespace Go.Proofs.YtdoaoaicdimbeaaGreatDoor
open Go.RowKit Go.Shelf Go.Rg
attribute [local go_sem] Oper.semAt_some
def eT:Nat→Nat→List UInt8→List (Nat×Nat×Nat)
 |0,_,_=>[]
 |n+1,a,s=>if s=[]then[]else if Lib.indexByte s 10<0 then[(a,a+s.length,a+s.length)]else
  (a,a+(if 0<(Lib.indexByte s 10).toNat∧s[(Lib.indexByte s 10).toNat - 1]? =some 13 then(Lib.indexByte s 10).toNat - 1 else(Lib.indexByte s 10).toNat),a+(Lib.indexByte s 10).toNat+1)::
   eT n (a+(Lib.indexByte s 10).toNat+1) (s.drop ((Lib.indexByte s 10).toNat+1))
def bQ (a:Nat) (s:List UInt8):List (Nat×Nat×Nat):=eT s.length a s
theorem vL:∀(n m a:Nat) (s:List UInt8),s.length≤n→s.length≤m→eT n a s=eT m a s
 |0,m,a,s,h,_=>by
  have:s=[]:=List.eq_nil_of_length_eq_zero (by omega)
  subst this
  cases m<;>simp[eT]
 |n+1,0,a,s,_,h=>by
  have:s=[]:=List.eq_nil_of_length_eq_zero (by omega)
  subst this
  simp[eT]
 |n+1,m+1,a,s,h,h' =>by
  simp only[eT]
  by_cases hs:s=[]
  ·simp[hs]
  ·rw[if_neg hs,if_neg hs]
   have hp:0<s.length:=List.length_pos_iff.2 hs
   rw[vL n m (a+(Lib.indexByte s 10).toNat+1) (s.drop ((Lib.indexByte s 10).toNat+1)) (by rw[List.length_drop];omega) (by rw[List.length_drop];omega)]
theorem yA (a:Nat):bQ a []=[]:=rfl
theorem vM (a:Nat) (s:List UInt8) (hs:s≠[]):bQ a s=if Lib.indexByte s 10<0 then[(a,a+s.length,a+s.length)]else
  (a,a+(if 0<(Lib.indexByte s 10).toNat∧s[(Lib.indexByte s 10).toNat - 1]? =some 13 then(Lib.indexByte s 10).toNat - 1 else(Lib.indexByte s 10).toNat),a+(Lib.indexByte s 10).toNat+1)::
   bQ (a+(Lib.indexByte s 10).toNat+1) (s.drop ((Lib.indexByte s 10).toNat+1)):=by
 have hp:0<s.length:=List.length_pos_iff.2 hs
 obtain⟨n,hn⟩:∃n,s.length=n+1:=⟨s.length - 1,by omega⟩
 unfold bQ
 rw[hn]
 conv=>lhs;unfold eT
 rw[if_neg hs,vL n _ _ (s.drop ((Lib.indexByte s 10).toNat+1)) (by rw[List.length_drop];omega) (Nat.le_refl _),hn]
set_option maxRecDepth 100000 in
set_option maxHeartbeats 4000000 in
theorem vN (X:Nat→Prop) (base:World) (S B b off cap fr to:Nat) (bs:List UInt8) (hXS:¬X S) (hXB:¬X B) (hXb:¬X b) (hft:fr≤to) (htl:to≤bs.length) (hcap:bs.length≤cap) (hmax:bs.length≤9223372036854775000)
  (hs0:base.cell? ⟨S,0,none⟩=some (.int .i64 fr)) (hs1:base.cell? ⟨S,1,none⟩=some (.int .i64 to)) (hb0:base.cell? ⟨B,0,none⟩=some (.slice (some ⟨b,off,none⟩) bs.length cap))
  (hc:∀j x,bs[j]? =some x→base.cell? ⟨b,off+j,none⟩=some (.int .u8 x.toNat)):
  xZ X Tryz.prog 123 #[.pointer (some ⟨S,0,none⟩), .pointer (some ⟨B,0,none⟩)] iP (bQ fr ((bs.take to).drop fr)) base:=by
 intro l J Jx T W hab hR h0
 have HC:Aside (∀j x,bs[j]? =some x→base.cell? ⟨b,off+j,none⟩=some (.int .u8 x.toNat)):=hc
 clear hc
 have hob:=hab.old 0 W h0
 have hS:S<base.heap.size:=World.block_lt_of_cell? base _ hs0
 have hB:B<base.heap.size:=World.block_lt_of_cell? base _ hb0
 have hS0:W.cell? ⟨S,0,none⟩=some (.int .i64 fr):=(hob.cell (p:=⟨S,0,none⟩) hS hXS).trans hs0
 refine callsIn_of_wp Tryz.func123 rfl trivial ?_ rfl
 simp only[Tryz.ntmps123,List.size_toArray,List.length_cons,List.length_nil,Nat.reduceAdd,Nat.reduceSub,Array.replicate_succ,Array.replicate_zero,List.push_toArray,List.append_toArray,List.nil_append,List.cons_append]
 gi_wp2
 gi_loopw [4] (fun i wr=>∃(a n:Nat),i= .int .i64 a∧fr≤a∧a≤to∧J n wr∧bQ a ((bs.take to).drop a)=(bQ fr ((bs.take to).drop fr)).drop n∧n≤(bQ fr ((bs.take to).drop fr)).length)
  (fun i _=>to - (intOf i).toNat)
 case atStart=>exact⟨fr,0,rfl,Nat.le_refl _,hft,h0,by simp,Nat.zero_le _⟩
 case round=>
  obtain⟨a,n,rfl,hfa,hat,hJ,hX,hnl⟩:=hrel
  have HX:Aside (bQ a ((bs.take to).drop a)=(bQ fr ((bs.take to).drop fr)).drop n∧n≤(bQ fr ((bs.take to).drop fr)).length):=⟨hX,hnl⟩
  clear hX hnl
  have hor:=hab.old n wr hJ
  have hS1:wr.cell? ⟨S,1,none⟩=some (.int .i64 to):=(hor.cell (p:=⟨S,1,none⟩) hS hXS).trans hs1
  have hB0:wr.cell? ⟨B,0,none⟩=some (.slice (some ⟨b,off,none⟩) bs.length cap):=(hor.cell (p:=⟨B,0,none⟩) hB hXB).trans hb0
  by_cases hlt:a<to
  ·have hltz:(a:Int)<(to:Int):=by omega
   have c0:(0:Int)≤(a:Int):=by omega
   have c1:(a:Int)≤(to:Int):=by omega
   have c2:(to:Int)≤(cap:Int):=by omega
   generalize hseg:(bs.take to).drop a=seg at HX
   have hsl:seg.length=to - a:=by rw[←hseg];simp;omega
   have hcs:∀(w' :World),(∀k,k<base.heap.size→¬X k→w'.heap[k]? =base.heap[k]?)→∀j x,seg[j]? =some x→w'.cell? ⟨b,off+a+j,none⟩=some (.int .u8 x.toNat):=by
    intro w' hw j x hx
    have h1:bs[a+j]? =some x:=by
     rw[←hseg,List.getElem?_drop,List.getElem?_take]at hx
     split at hx
     ·exact hx
     ·cases hx
    have h2:=HC.out (a+j) x h1
    have hb:=World.block_lt_of_cell? base _ h2
    have h3:=hw b hb hXb
    simp only[World.cell?]at h2 ⊢
    rw[h3,Nat.add_assoc]
    exact h2
   have HSL:Aside (seg.length=to - a):=hsl
   have HCS:Aside (∀(w' :World),(∀k,k<base.heap.size→¬X k→w'.heap[k]? =base.heap[k]?)→∀j x,seg[j]? =some x→w'.cell? ⟨b,off+a+j,none⟩=some (.int .u8 x.toNat)):=hcs
   clear hcs hsl
   have hBl:B<wr.heap.size:=Nat.lt_of_lt_of_le hB hor.size
   have hSl:S<wr.heap.size:=Nat.lt_of_lt_of_le hS hor.size
   have hB1:∀cs,(wr.alloc (.cells cs 134)).cell? ⟨B,0,none⟩=some (.slice (some ⟨b,off,none⟩) bs.length cap):=fun cs=>(World.cell?_of_block (Below.heap_alloc _ _ B hBl)).trans hB0
   have hS2:∀cs,(wr.alloc (.cells cs 134)).cell? ⟨S,1,none⟩=some (.int .i64 to):=fun cs=>(World.cell?_of_block (Below.heap_alloc _ _ S hSl)).trans hS1
   have hwa:∀cs k,k<base.heap.size→¬X k→(wr.alloc (.cells cs 134)).heap[k]? =base.heap[k]? :=fun cs k hk hx=>(Below.heap_alloc _ _ k (Nat.lt_of_lt_of_le hk hor.size)).trans (hor.block k hk hx)
   have hidx:∀cs,CallsIn Fence.wide 0 Tryz.prog 124 #[.slice (some ⟨b,off+a,none⟩) (to - a) (cap - a), .int .u8 10] (wr.alloc (.cells cs 134)) fun e w' =>e= .returned (.int .i64 (Lib.indexByte seg 10))∧w' =wr.alloc (.cells cs 134):=by
    intro cs
    have:=F9 (wr.alloc (.cells cs 134)) b (off+a) (cap - a) seg 10 (HCS.out _ (hwa cs)) (by rw[HSL.out];omega)
    rw[HSL.out]at this
    exact callsIn_wide.2 this
   have hsne:seg≠[]:=fun e=>by have:=HSL.out;rw[e]at this;simp at this;omega
   have hxs:=vM a seg hsne
   have fin:∀(e nx:Nat) (E N:Int) (rest:List (Nat×Nat×Nat)),E=e→N=nx→bQ a seg=(a,e,nx)::rest→
     rest=(bQ fr ((bs.take to).drop fr)).drop (n+1)∧n+1≤(bQ fr ((bs.take to).drop fr)).length∧
     YieldAt Fence.wide 0 Tryz.prog l #[.agg #[.int .i64 a, .int .i64 E, .int .i64 N]] (wr.alloc (.cells #[.int .i64 a, .int .i64 E, .int .i64 N] 134)) fun e' W' =>
      (e' = .returned (.bool true)∧J (n+1) W'∧W'.cell? ⟨wr.heap.size,2,none⟩=some (.int .i64 N))∨(e' = .returned (.bool false)∧Jx W'):=by
    intro e nx E N rest hE hN hl
    subst hE hN
    have h1:=HX.out.1
    rw[hl]at h1
    have hxx:(bQ fr ((bs.take to).drop fr))[n]? =some (a,e,nx):=by
     have h2:=congrArg (fun l=>l[0]?) h1
     simp only[List.getElem?_drop,Nat.add_zero]at h2
     rw[←h2]
     rfl
    have hrest:rest=(bQ fr ((bs.take to).drop fr)).drop (n+1):=by
     have h2:=congrArg (List.drop 1) h1
     rw[List.drop_drop]at h2
     exact h2
    refine⟨hrest,(List.getElem?_eq_some_iff.1 hxx).1,?_⟩
    have hga:wr.grownBy (wr.alloc (.cells #[.int .i64 a, .int .i64 e, .int .i64 nx] 134)) none:=World.grownBy_alloc _ _ _
    have hst:=hab.step n wr _ none hJ hga (fun r e=>by cases e)
    have hTX:¬T (wr.alloc (.cells #[.int .i64 a, .int .i64 e, .int .i64 nx] 134)) wr.heap.size:=fun h=>Nat.lt_irrefl _ (hab.lt n wr _ hJ (hst.2 _ h))
    have hX2:(wr.alloc (.cells #[.int .i64 a, .int .i64 e, .int .i64 nx] 134)).cell? ⟨wr.heap.size,2,none⟩=some (.int .i64 nx):=by simp
    have hXl:wr.heap.size<(wr.alloc (.cells #[.int .i64 a, .int .i64 e, .int .i64 nx] 134)).heap.size:=by simp
    obtain⟨fn,tmps,assign,body,hy,hRd⟩:=hR n (a,e,nx) _ hxx hst.1
    refine⟨fn,tmps,assign,body,hy,hRd.mono ?_⟩
    rintro e' W3 (⟨rfl,hJ3,hk3⟩|⟨rfl,hJx3⟩)
    ·exact .inl ⟨rfl,hJ3,(World.cell?_of_block (hk3.block _ hXl hTX).1).trans hX2⟩
    ·exact .inr ⟨rfl,hJx3⟩
   by_cases hk:Lib.indexByte seg 10<0
   ·have hk1:Lib.indexByte seg 10= -1:=by have:=Lib.indexByte_ge seg 10;omega
    rw[hk1]at hidx
    rw[if_pos hk]at hxs
    obtain⟨hr1,hr2,fn,tmps,assign,body,hy,hRd⟩:=fin to to to to [] rfl rfl (by rw[hxs,HSL.out];congr 3<;>omega)
    have HR1:=(show Hid _ from hr1)
    have HR2:=(show Hid _ from hr2)
    clear hxs hk hk1 hwa hsne fin hr1 hr2
    gi_wp2
    refine⟨trivial,(hidx _).mono ?_⟩
    clear hidx
    rintro e w' ⟨rfl,rfl⟩
    gi_wp2
    refine hRd.mono ?_
    rintro e W3 (⟨rfl,hJ3,hX3⟩|⟨rfl,hJx3⟩)
    ·gi_wp2
     go_roundw
     case rel=>
      refine⟨to,n+1,rfl,by omega,by omega,hJ3,?_,HR2.out⟩
      have h3:(bs.take to).drop to=[]:=by simp
      rw[h3,yA]
      exact HR1.out
     case measure=>simp[intOf];omega
    ·gi_wp2
     refine bodyPost_ret (results_none rfl _ _ _) rfl ?_
     exact⟨⟨_,rfl⟩, .inr hJx3⟩
   ·obtain⟨q,hq⟩:∃q:Nat,Lib.indexByte seg 10=q:=⟨(Lib.indexByte seg 10).toNat,by omega⟩
    rw[hq]at hidx
    rw[if_neg hk,hq]at hxs
    have hq0:=Lib.indexByte_some hq
    have hql:q<seg.length:=(List.getElem?_eq_some_iff.1 hq0.1).1
    have hqa:q<to - a:=by rw[←HSL.out];exact hql
    have hdr:seg.drop (q+1)=(bs.take to).drop (a+q+1):=by rw[←hseg,List.drop_drop,Nat.add_assoc]
    have hxs' :bQ a seg=(a,a+(if 0<q∧seg[q - 1]? =some 13 then q - 1 else q),a+q+1)::bQ (a+q+1) ((bs.take to).drop (a+q+1)):=by rw[←hdr];exact hxs
    have z1:(0:Int)≤(q:Int):=by omega
    by_cases hq1:0<q
    ·have z2:(0:Int)<(q:Int):=by omega
     obtain⟨y,hy0⟩:∃y,seg[q - 1]? =some y:=⟨_,List.getElem?_eq_getElem (by omega)⟩
     have hcb:∀cs,(wr.alloc (.cells cs 134)).cell? ⟨b,off+(a+q - 1),none⟩=some (.int .u8 y.toNat):=by
      intro cs
      have:=HCS.out _ (hwa cs) (q - 1) y hy0
      rw[show off+(a+q - 1)=off+a+(q - 1)by omega]
      exact this
     by_cases h13:y=13
     ·have hq13:((y.toNat:Int)==13)=true:=by rw[h13];rfl
      obtain⟨hr1,hr2,fn,tmps,assign,body,hy,hRd⟩:=fin (a+(q - 1)) (a+q+1) (a+q - 1) (a+q+1) _ (by omega) (by omega) (by rw[hxs',if_pos ⟨hq1,by rw[hy0,h13]⟩])
      have HR1:=(show Hid _ from hr1)
      have HR2:=(show Hid _ from hr2)
      clear hxs hxs' hk hwa hsne fin hr1 hr2 hq hq0 hql hdr hy0 h13
      gi_wp2
      refine⟨trivial,(hidx _).mono ?_⟩
      clear hidx
      rintro e w' ⟨rfl,rfl⟩
      gi_wp2
      refine hRd.mono ?_
      rintro e W3 (⟨rfl,hJ3,hX3⟩|⟨rfl,hJx3⟩)
      ·gi_wp2
       go_roundw
       case rel=>exact⟨a+q+1,n+1,by push_cast;rfl,by omega,by omega,hJ3,HR1.out,HR2.out⟩
       case measure=>simp[intOf];omega
      ·gi_wp2
       refine bodyPost_ret (results_none rfl _ _ _) rfl ?_
       exact⟨⟨_,rfl⟩, .inr hJx3⟩
     ·have h13' :y.toNat≠13:=fun e=>h13 (UInt8.toNat_inj.1 e)
      have hq13:((y.toNat:Int)==13)=false:=beq_eq_false_iff_ne.2 (by omega)
      obtain⟨hr1,hr2,fn,tmps,assign,body,hy,hRd⟩:=fin (a+q) (a+q+1) (a+q) (a+q+1) _ (by omega) (by omega) (by rw[hxs',if_neg (by rw[hy0];simp;intro _;exact h13)])
      have HR1:=(show Hid _ from hr1)
      have HR2:=(show Hid _ from hr2)
      clear hxs hxs' hk hwa hsne fin hr1 hr2 hq hq0 hql hdr hy0 h13
      gi_wp2
      refine⟨trivial,(hidx _).mono ?_⟩
      clear hidx
      rintro e w' ⟨rfl,rfl⟩
      gi_wp2
      refine hRd.mono ?_
      rintro e W3 (⟨rfl,hJ3,hX3⟩|⟨rfl,hJx3⟩)
      ·gi_wp2
       go_roundw
       case rel=>exact⟨a+q+1,n+1,by push_cast;rfl,by omega,by omega,hJ3,HR1.out,HR2.out⟩
       case measure=>simp[intOf];omega
      ·gi_wp2
       refine bodyPost_ret (results_none rfl _ _ _) rfl ?_
       exact⟨⟨_,rfl⟩, .inr hJx3⟩
    ·have z2:¬(0:Int)<(q:Int):=by omega
     obtain⟨hr1,hr2,fn,tmps,assign,body,hy,hRd⟩:=fin (a+q) (a+q+1) (a+q) (a+q+1) _ (by omega) (by omega) (by rw[hxs',if_neg (fun h=>hq1 h.1)])
     have HR1:=(show Hid _ from hr1)
     have HR2:=(show Hid _ from hr2)
     clear hxs hxs' hk hwa hsne fin hr1 hr2 hq hq0 hql hdr
     gi_wp2
     refine⟨trivial,(hidx _).mono ?_⟩
     clear hidx
     rintro e w' ⟨rfl,rfl⟩
     gi_wp2
     refine hRd.mono ?_
     rintro e W3 (⟨rfl,hJ3,hX3⟩|⟨rfl,hJx3⟩)
     ·gi_wp2
      go_roundw
      case rel=>exact⟨a+q+1,n+1,by push_cast;rfl,by omega,by omega,hJ3,HR1.out,HR2.out⟩
      case measure=>simp[intOf];omega
     ·gi_wp2
      refine bodyPost_ret (results_none rfl _ _ _) rfl ?_
      exact⟨⟨_,rfl⟩, .inr hJx3⟩
  ·have hltz:¬((a:Int)<(to:Int)):=by omega
   gi_wp2
   go_end0
   obtain rfl:a=to:=by omega
   have h1:=HX.out.1
   have h3:(bs.take a).drop a=[]:=by simp
   rw[h3,yA]at h1
   have h2:(bQ fr ((bs.take a).drop fr)).length≤n:=List.drop_eq_nil_iff.1 h1.symm
   have h4:=HX.out.2
   have:n=(bQ fr ((bs.take a).drop fr)).length:=by omega
   rw[←this]
   exact⟨⟨_,rfl⟩, .inl hJ⟩
theorem EC (base:World) (S B b off cap fr to:Nat) (bs:List UInt8) (hft:fr≤to) (htl:to≤bs.length) (hcap:bs.length≤cap) (hmax:bs.length≤9223372036854775000)
  (hs0:base.cell? ⟨S,0,none⟩=some (.int .i64 fr)) (hs1:base.cell? ⟨S,1,none⟩=some (.int .i64 to)) (hb0:base.cell? ⟨B,0,none⟩=some (.slice (some ⟨b,off,none⟩) bs.length cap))
  (hc:∀j x,bs[j]? =some x→base.cell? ⟨b,off+j,none⟩=some (.int .u8 x.toNat)):
  C9 Tryz.prog 123 #[.pointer (some ⟨S,0,none⟩), .pointer (some ⟨B,0,none⟩)] iP (bQ fr ((bs.take to).drop fr)) base:=
 (vN (fun _=>False) base S B b off cap fr to bs id id id hft htl hcap hmax hs0 hs1 hb0 hc).tells
end Go.Proofs.YtdoaoaicdimbeaaGreatDoor
end
section
namespace Go.Proofs.YtdoaoaicdimbeaaGreatDoor
open Go.RowKit Go.Shelf Go.Rg
set_option maxRecDepth 100000 in
set_option maxHeartbeats 1000000 in
theorem yB (X:Nat→Prop) (base:World) (S:Nat) (x:Value) (hXS:¬X S) (fr to:Int) (hft:¬fr<to)
  (hs0:base.cell? ⟨S,0,none⟩=some (.int .i64 fr)) (hs1:base.cell? ⟨S,1,none⟩=some (.int .i64 to)):
  xZ X Tryz.prog 123 #[.pointer (some ⟨S,0,none⟩),x] iP [] base:=by
 intro l J Jx T W hab hR h0
 have hob:=hab.old 0 W h0
 have hS:S<base.heap.size:=World.block_lt_of_cell? base _ hs0
 have hS0:W.cell? ⟨S,0,none⟩=some (.int .i64 fr):=(hob.cell (p:=⟨S,0,none⟩) hS hXS).trans hs0
 have hS1:W.cell? ⟨S,1,none⟩=some (.int .i64 to):=(hob.cell (p:=⟨S,1,none⟩) hS hXS).trans hs1
 refine callsIn_of_wp Tryz.func123 rfl trivial ?_ rfl
 simp only[Tryz.ntmps123,List.size_toArray,List.length_cons,List.length_nil,Nat.reduceAdd,Nat.reduceSub,Array.replicate_succ,Array.replicate_zero,List.push_toArray,List.append_toArray,List.nil_append,List.cons_append]
 gi_wp2
 gi_loopw [4] (fun i wr=>i= .int .i64 fr∧wr=W) (fun _ _=>0)
 case atStart=>exact⟨rfl,rfl⟩
 case round=>
  obtain⟨rfl,rfl⟩:=hrel
  gi_wp2
  go_end0
  exact⟨⟨_,rfl⟩, .inl h0⟩
theorem Ga (base:World) (S:Nat) (x:Value) (fr to:Int) (hft:¬fr<to)
  (hs0:base.cell? ⟨S,0,none⟩=some (.int .i64 fr)) (hs1:base.cell? ⟨S,1,none⟩=some (.int .i64 to)):
  C9 Tryz.prog 123 #[.pointer (some ⟨S,0,none⟩),x] iP [] base:=
 (yB (fun _=>False) base S x id fr to hft hs0 hs1).tells
set_option maxHeartbeats 1000000 in
theorem K0 (x:Value) (fr to:Int) (w:World) (hx:∃a l c,x= .slice a l c):Calls Tryz.prog 90 #[x, .agg #[.int .i64 fr, .int .i64 to]] w fun e w' =>
  e= .returned (.func (.func 123) #[] #[.pointer (some ⟨w.heap.size+1,0,none⟩), .pointer (some ⟨w.heap.size,0,none⟩)])∧w' =(w.alloc (.cells #[x] 40)).alloc (.cells #[.int .i64 fr, .int .i64 to] 32):=by
 obtain⟨a,l,c,rfl⟩:=hx
 go_enter Tryz.func90,Tryz.ntmps90
 go_wp2
 go_ret
 exact⟨rfl,rfl⟩
set_option maxHeartbeats 1000000 in
theorem yC (fr to n:Int) (w:World):Calls Tryz.prog 74 #[.agg #[.int .i64 fr, .int .i64 to], .int .i64 n] w fun e w' =>
  e= .returned (.bool (decide (0≤fr∧fr≤to∧to≤n)))∧w' =w.alloc (.cells #[.int .i64 fr, .int .i64 to] 32):=by
 by_cases h1:0≤fr
 ·by_cases h2:fr≤to
  ·by_cases h3:to≤n
   ·have e:decide (0≤fr∧fr≤to∧to≤n)=true:=by simp[h1,h2,h3]
    rw[e]
    go_enter Tryz.func74,Tryz.ntmps74
    go_wp2
    go_ret
    exact⟨rfl,rfl⟩
   ·have e:decide (0≤fr∧fr≤to∧to≤n)=false:=by simp[h3]
    rw[e]
    go_enter Tryz.func74,Tryz.ntmps74
    go_wp2
    go_ret
    exact⟨rfl,rfl⟩
  ·have e:decide (0≤fr∧fr≤to∧to≤n)=false:=by simp[h2]
   rw[e]
   go_enter Tryz.func74,Tryz.ntmps74
   go_wp2
   go_ret
   exact⟨rfl,rfl⟩
 ·have e:decide (0≤fr∧fr≤to∧to≤n)=false:=by simp[h1]
  rw[e]
  go_enter Tryz.func74,Tryz.ntmps74
  go_wp2
  go_ret
  exact⟨rfl,rfl⟩
theorem jV (W:World) (cs:Array Value) (t:TypeId) (n i:Nat) (v:Value) (h:W.heap.size=n) (hv:cs[i]? =some v):(W.alloc (.cells cs t)).cell? ⟨n,i,none⟩=some v:=by
 subst h
 have:=World.alloc_heap_new W (.cells cs t)
 simp only[World.cell?,this]
 exact hv
theorem qM:∀(n a:Nat) (s:List UInt8),(eT n a s).length≤s.length
 |0,a,s=>by simp[eT]
 |n+1,a,s=>by
  unfold eT
  split
  ·simp
  ·rename_i hs
   have hp:0<s.length:=List.length_pos_iff.2 hs
   split
   ·simp;omega
   ·have:=qM n (a+(Lib.indexByte s 10).toNat+1) (s.drop ((Lib.indexByte s 10).toNat+1))
    rw[List.length_drop]at this
    simp only[List.length_cons]
    omega
def aU (fr to:Int) (bs:List UInt8):List (Nat×Nat×Nat):=if 0≤fr∧fr≤to∧to≤bs.length then bQ fr.toNat ((bs.take to.toNat).drop fr.toNat)else[]
theorem dF (fr to:Int) (bs:List UInt8):(aU fr to bs).length≤bs.length:=by
 unfold aU
 split
 ·exact Nat.le_trans (qM _ _ _) (by simp;omega)
 ·simp
set_option maxRecDepth 100000 in
set_option maxHeartbeats 1000000 in
theorem Pe (a:Option Addr) (cap:Nat) (bs:List UInt8) (fr to:Int) (w:World) (hcap:bs.length≤cap) (ha:a=none→cap=0) (hmax:bs.length<1099511627776)
  (hc:∀p,a=some p→bs≠[]→p.spot=none∧∀j x,bs[j]? =some x→w.cell? ⟨p.block,p.off+j,none⟩=some (.int .u8 x.toNat)):
  Calls Tryz.prog 62 #[.slice a bs.length cap, .agg #[.int .i64 fr, .int .i64 to]] w fun e w' =>
   ∃v:Value,e= .returned v∧w'.ownsRow w.heap.size 134 3 v (aU fr to bs).length (fP (aU fr to bs))∧Below w.heap.size w w' :=by
 have HC:Aside (∀p,a=some p→bs≠[]→p.spot=none∧∀j x,bs[j]? =some x→w.cell? ⟨p.block,p.off+j,none⟩=some (.int .u8 x.toNat)):=hc
 clear hc
 by_cases hin:0≤fr∧fr≤to∧to≤bs.length
 ·have hd:decide (0≤fr∧fr≤to∧to≤(bs.length:Int))=true:=by simpa using hin
  have hl:aU fr to bs=bQ fr.toNat ((bs.take to.toNat).drop fr.toNat):=by unfold aU;rw[if_pos hin]
  have hlen:=dF fr to bs
  go_enter Tryz.func62,Tryz.ntmps62
  go_wp2_with (first
   |(go_at_call 74;refine(yC fr to _ _).mono ?_;rintro e w' ⟨rfl,hw⟩;rw[hw,hd])
   |(go_at_call 90;refine(K0 _ fr to _ ⟨_,_,_,rfl⟩).mono ?_;rintro e w' ⟨rfl,hw⟩;rw[hw])
   |(go_at_call 101;refine(collect_in 123 _ (enters_of Tryz.func123 (by kernel_rfl) rfl) (aU fr to bs) ?c1 ?c2 _ ?c3).mono ?_))
  case c1=>unfold maxLen;omega
  case c2=>omega
  case c3=>
   generalize hW:(((w.alloc (Obj.cells #[Value.int IntKind.i64 fr,Value.int IntKind.i64 to] 32)).alloc (Obj.cells #[Value.int IntKind.i64 fr,Value.int IntKind.i64 to] 32)).alloc (Obj.cells #[Value.slice a bs.length cap] 40)).alloc (Obj.cells #[Value.int IntKind.i64 fr,Value.int IntKind.i64 to] 32)=W
   have s0:W.cell? ⟨w.heap.size+1+1+1,0,none⟩=some (.int .i64 fr):=by rw[←hW];exact jV _ _ _ _ _ _ (by simp) rfl
   have s1:W.cell? ⟨w.heap.size+1+1+1,1,none⟩=some (.int .i64 to):=by rw[←hW];exact jV _ _ _ _ _ _ (by simp) rfl
   have b0:W.cell? ⟨w.heap.size+1+1,0,none⟩=some (.slice a bs.length cap):=by
    rw[←hW]
    refine(World.cell?_of_block (Below.heap_alloc _ _ _ (by simp))).trans ?_
    exact jV _ _ _ _ _ _ (by simp) rfl
   have hold:∀k,k<w.heap.size→W.heap[k]? =w.heap[k]? :=fun k hk=>by
    rw[←hW]
    exact(Below.heap_alloc _ _ k (by simp;omega)).trans ((Below.heap_alloc _ _ k (by simp;omega)).trans ((Below.heap_alloc _ _ k (by simp;omega)).trans (Below.heap_alloc _ _ k hk)))
   by_cases hft:fr<to
   ·have hbne:bs≠[]:=fun e=>by rw[e]at hin;simp at hin;omega
    cases ha0:a with
    |none=>have:=ha ha0;have:=List.length_pos_iff.2 hbne;omega
    |some p=>
     obtain⟨hp1,hp2⟩:=HC.out p ha0 hbne
     obtain⟨pb,po,ps⟩:=p
     simp only at hp1 hp2
     subst hp1
     rw[ha0]at b0
     obtain⟨F,hF⟩:∃F:Nat,fr=F:=⟨fr.toNat,by omega⟩
     obtain⟨E,hE⟩:∃E:Nat,to=E:=⟨to.toNat,by omega⟩
     rw[hl,hF,hE]
     rw[hF]at s0
     rw[hE]at s1
     exact EC W (w.heap.size+1+1+1) (w.heap.size+1+1) pb po cap F E bs (by omega) (by omega) hcap (by omega) s0 s1 b0 (fun j x hx=>by
      have h1:=hp2 j x hx
      have h2:=hold pb (World.block_lt_of_cell? w _ h1)
      simp only[World.cell?]at h1 ⊢
      rw[h2];exact h1)
   ·have he:aU fr to bs=[]:=by
     rw[hl]
     have:fr=to:=by omega
     rw[this]
     have h3:(bs.take to.toNat).drop to.toNat=[]:=by simp
     rw[h3];rfl
    rw[he]
    exact Ga W _ _ fr to hft s0 s1
  rintro e w' ⟨v,rfl,hrow,hb⟩
  go_wp2
  go_ret
  refine⟨v,rfl,ownsRow_base hrow (by simp;omega),?_⟩
  refine Below.trans ?_ (hb.mono (by simp;omega))
  exact((((Below.refl _ w).alloc (Nat.le_refl _) _).alloc (by simp) _).alloc (by simp;omega) _).alloc (by simp;omega) _
 ·have hd:decide (0≤fr∧fr≤to∧to≤(bs.length:Int))=false:=by simpa using hin
  have hl:aU fr to bs=[]:=by unfold aU;rw[if_neg hin]
  rw[hl]
  go_enter Tryz.func62,Tryz.ntmps62
  go_wp2_with (first
   |(go_at_call 74;refine(yC fr to _ _).mono ?_;rintro e w' ⟨rfl,hw⟩;rw[hw,hd]))
  go_ret
  exact⟨.slice none 0 0,rfl,World.ownsRow_nil _ _ _ _,((Below.refl _ w).alloc (Nat.le_refl _) _).alloc (by simp) _⟩
end Go.Proofs.YtdoaoaicdimbeaaGreatDoor
end
section
namespace Go.Proofs.YtdoaoaicdimbeaaGreatDoor
open Go.RowKit Go.Shelf Go.Rg
attribute [local go_sem] Oper.semAt_some
structure Db (base:World) (rec:Loop) (A l D:Nat) (n:Nat) (W:World):Prop where
 at_:Boxed W A 3 (.int .i64 n)
 L:W.heap[l]? =some (.loop rec)
 K:W.heap[D]? =some (.deferred (some []))
 old:Jy (· =A) base W
 below:Below 0 base W
def Jz (A l D:Nat) (W:World) (r:Nat):Prop:=r<W.heap.size∧(r=A∨r=l∨r=D)
theorem Db.grown {base:World} {rec:Loop} {A l D:Nat} {n:Nat} {W W' :World} {row:Option Nat} (h:Db base rec A l D n W) (hg:W.grownBy W' row) (hr:∀r,row=some r→base.heap.size≤r∧r≠A∧r≠l∧r≠D):Db base rec A l D n W' :=
 ⟨h.at_.kept hg (fun e=>(hr A e.symm).2.1 rfl),(hg.block l (Array.getElem?_eq_some_iff.1 h.L).1 (fun e=>(hr l e.symm).2.2.1 rfl)).trans h.L,
  (hg.block D (Array.getElem?_eq_some_iff.1 h.K).1 (fun e=>(hr D e.symm).2.2.2 rfl)).trans h.K,
  ⟨Nat.le_trans h.old.size hg.size,fun b hb hx=>(hg.block b (Nat.lt_of_lt_of_le hb h.old.size) (fun e=>by have:=(hr b e.symm).1;omega)).trans (h.old.block b hb hx)⟩,h.below.grown hg (Nat.zero_le _) (fun _ _=>Nat.zero_le _)⟩
theorem cnt_abides (base:World) (rec:Loop) (A l D:Nat):E8 (· =A) base (fun i W=>Db base rec A l D i W) (Jz A l D) where
 step:=by
  intro i W W' row h hg hrow
  have k2:=h.at_.lt
  have k3:=(Array.getElem?_eq_some_iff.1 h.L).1
  have k4:=(Array.getElem?_eq_some_iff.1 h.K).1
  refine⟨h.grown hg fun r e=>⟨(hrow r e).1,?_,?_,?_⟩,?_⟩
  ·intro e';subst e';exact(hrow _ e).2 ⟨k2, .inl rfl⟩
  ·intro e';subst e';exact(hrow _ e).2 ⟨k3, .inr (.inl rfl)⟩
  ·intro e';subst e';exact(hrow _ e).2 ⟨k4, .inr (.inr rfl)⟩
  ·rintro r ⟨_,rfl|rfl|rfl⟩
   ·exact⟨k2, .inl rfl⟩
   ·exact⟨k3, .inr (.inl rfl)⟩
   ·exact⟨k4, .inr (.inr rfl)⟩
 lt:=fun i W r _ ht=>ht.1
 old:=fun i W h=>h.old
set_option maxRecDepth 100000 in
set_option maxHeartbeats 2000000 in
theorem Ha (a:Option Addr) (cap:Nat) (bs:List UInt8) (fr to:Int) (w:World) (hcap:bs.length≤cap) (ha:a=none→cap=0) (hmax:bs.length<1099511627776)
  (hc:∀p,a=some p→bs≠[]→p.spot=none∧∀j x,bs[j]? =some x→w.cell? ⟨p.block,p.off+j,none⟩=some (.int .u8 x.toNat)):
  CallsIn Fence.wide 2 Tryz.prog 48 #[.slice a bs.length cap, .agg #[.int .i64 fr, .int .i64 to]] w fun e w' =>
   e= .returned (.int .i64 (aU fr to bs).length)∧Below w.heap.size w w' :=by
 have HC:Aside (∀p,a=some p→bs≠[]→p.spot=none∧∀j x,bs[j]? =some x→w.cell? ⟨p.block,p.off+j,none⟩=some (.int .u8 x.toNat)):=hc
 clear hc
 have HR:Aside ((¬(0≤fr∧fr≤to∧to≤bs.length)→aU fr to bs=[])∧True):=⟨fun h=>by unfold aU;rw[if_neg h],trivial⟩
 refine callsIn_of_wp_marks Tryz.func48 rfl trivial ?_ rfl
 simp only[Tryz.ntmps48,List.size_toArray,List.length_cons,List.length_nil,Nat.reduceAdd,Nat.reduceSub,Array.replicate_succ,Array.replicate_zero,List.push_toArray,List.append_toArray,List.nil_append,List.cons_append]
 gi_wp2
 refine⟨trivial,(callsIn_wide.2 (yC fr to _ _)).mono ?_⟩
 rintro e w1 ⟨rfl,hw1⟩
 by_cases hin:0≤fr∧fr≤to∧to≤bs.length
 ·have hd:decide (0≤fr∧fr≤to∧to≤(bs.length:Int))=true:=by simpa using hin
  rw[hw1,hd]
  clear hw1
  gi_wp2
  refine⟨trivial,(callsIn_wide.2 (K0 _ fr to _ ⟨_,_,_,rfl⟩)).mono ?_⟩
  rintro e w2 ⟨rfl,hw2⟩
  rw[hw2]
  clear hw2
  gi_wp2
  obtain⟨W0,hW0⟩:∃W0,(((((w.alloc (Obj.cells #[Value.int IntKind.i64 fr,Value.int IntKind.i64 to] 32)).alloc (Obj.cells #[Value.int IntKind.i64 0] 3)).alloc (Obj.cells #[Value.int IntKind.i64 fr,Value.int IntKind.i64 to] 32)).alloc (Obj.cells #[Value.slice a bs.length cap] 40)).alloc (Obj.cells #[Value.int IntKind.i64 fr,Value.int IntKind.i64 to] 32))=W0:=⟨_,rfl⟩
  rw[hW0]
  refine tU rfl (by decide) (gf:=123) (lb:=#[.pointer (some ⟨w.heap.size+1+1+1+1,0,none⟩), .pointer (some ⟨w.heap.size+1+1+1,0,none⟩)]) rfl trivial (enters_of Tryz.func123 (by kernel_rfl) rfl) ?_
  intro fn rec W1 hrec hW1
  have hlen:=dF fr to bs
  have hz0:W0.heap.size=w.heap.size+5:=by rw[←hW0];simp
  have hold:∀k,k<w.heap.size→W0.heap[k]? =w.heap[k]? :=fun k hk=>by
   rw[←hW0]
   exact(Below.heap_alloc _ _ k (by simp;omega)).trans ((Below.heap_alloc _ _ k (by simp;omega)).trans ((Below.heap_alloc _ _ k (by simp;omega)).trans ((Below.heap_alloc _ _ k (by simp;omega)).trans (Below.heap_alloc _ _ k hk))))
  have hb0w:Below w.heap.size w W0:=by
   rw[←hW0]
   exact(((((Below.refl _ w).alloc (Nat.le_refl _) _).alloc (by simp) _).alloc (by simp;omega) _).alloc (by simp;omega) _).alloc (by simp;omega) _
  have hA0:W0.heap[w.heap.size+1]? =some (.cells #[.int .i64 0] 3 (0,0)):=by
   rw[←hW0]
   refine(Below.heap_alloc _ _ _ (by simp)).trans ((Below.heap_alloc _ _ _ (by simp)).trans ((Below.heap_alloc _ _ _ (by simp)).trans ?_))
   have:=World.alloc_heap_new (w.alloc (Obj.cells #[Value.int IntKind.i64 fr,Value.int IntKind.i64 to] 32)) (.cells #[.int .i64 0] 3)
   rwa [World.size_alloc]at this
  have s0:W0.cell? ⟨w.heap.size+1+1+1+1,0,none⟩=some (.int .i64 fr):=by rw[←hW0];exact jV _ _ _ _ _ _ (by simp) rfl
  have s1:W0.cell? ⟨w.heap.size+1+1+1+1,1,none⟩=some (.int .i64 to):=by rw[←hW0];exact jV _ _ _ _ _ _ (by simp) rfl
  have b0:W0.cell? ⟨w.heap.size+1+1+1,0,none⟩=some (.slice a bs.length cap):=by
   rw[←hW0]
   refine(World.cell?_of_block (Below.heap_alloc _ _ _ (by simp))).trans ?_
   exact jV _ _ _ _ _ _ (by simp) rfl
  have hT:xZ (· =w.heap.size+1) Tryz.prog 123 #[.pointer (some ⟨w.heap.size+1+1+1+1,0,none⟩), .pointer (some ⟨w.heap.size+1+1+1,0,none⟩)] iP (aU fr to bs) W0:=by
   have hl:aU fr to bs=bQ fr.toNat ((bs.take to.toNat).drop fr.toNat):=by unfold aU;rw[if_pos hin]
   by_cases hft:fr<to
   ·have hbne:bs≠[]:=fun e=>by rw[e]at hin;simp at hin;omega
    cases ha0:a with
    |none=>have:=ha ha0;have:=List.length_pos_iff.2 hbne;omega
    |some p=>
     obtain⟨hp1,hp2⟩:=HC.out p ha0 hbne
     obtain⟨pb,po,ps⟩:=p
     simp only at hp1 hp2
     subst hp1
     rw[ha0]at b0
     obtain⟨F,hF⟩:∃F:Nat,fr=F:=⟨fr.toNat,by omega⟩
     obtain⟨E,hE⟩:∃E:Nat,to=E:=⟨to.toNat,by omega⟩
     rw[hl,hF,hE]
     rw[hF]at s0
     rw[hE]at s1
     have hpl:pb<w.heap.size:=by
      obtain⟨x,hx⟩:∃x,bs[0]? =some x:=⟨bs[0]'(List.length_pos_iff.2 hbne),by simp[List.length_pos_iff.2 hbne]⟩
      exact World.block_lt_of_cell? w _ (hp2 0 x hx)
     exact vN _ W0 (w.heap.size+1+1+1+1) (w.heap.size+1+1+1) pb po cap F E bs (by omega) (by omega) (by omega) (by omega) (by omega) hcap (by omega) s0 s1 b0 (fun j x hx=>by
      have h1:=hp2 j x hx
      have h2:=hold pb hpl
      simp only[World.cell?]at h1 ⊢
      rw[h2];exact h1)
   ·have he:aU fr to bs=[]:=by
     rw[hl]
     have:fr=to:=by omega
     rw[this]
     have h3:(bs.take to.toNat).drop to.toNat=[]:=by simp
     rw[h3];rfl
    rw[he]
    exact yB _ W0 _ _ (by omega) fr to hft s0 s1
  have hl1:W1.heap[W0.heap.size+1]? =some (.loop rec):=by
   rw[hW1]
   have:=World.alloc_heap_new (W0.alloc (.deferred (some []))) (.loop rec)
   rwa [World.size_alloc]at this
  have hk1:W1.heap[W0.heap.size]? =some (.deferred (some [])):=by
   rw[hW1]
   exact(Below.heap_alloc _ _ _ (by simp)).trans (World.alloc_heap_new W0 _)
  have hb1:Below W0.heap.size W0 W1:=by rw[hW1];exact((Below.refl _ W0).alloc (Nat.le_refl _) _).alloc (by simp) _
  have hI0:Db W0 rec (w.heap.size+1) (W0.heap.size+1) W0.heap.size 0 W1:=
   ⟨(hb1.block _ (by omega)).trans hA0,hl1,hk1,⟨hb1.size,fun b hb _=>hb1.block b hb⟩,hb1.mono (Nat.zero_le _)⟩
  have hrs:rec.state= .ready:=by rw[hrec]
  have hrp:rec.pending=none:=by rw[hrec]
  clear hW1 hb1 hl1 hk1 hA0 s0 s1 b0 hold
  clear hW0
  refine(hT (W0.heap.size+1) (fun i W=>Db W0 rec (w.heap.size+1) (W0.heap.size+1) W0.heap.size i W) (fun _=>False) (Jz (w.heap.size+1) (W0.heap.size+1) W0.heap.size) W1 (cnt_abides _ _ _ _ _) ?_ hI0).mono ?_
  ·intro i x W hx hI
   have hi:=(List.getElem?_eq_some_iff.1 hx).1
   clear hx hT hI0 HC HR
   suffices H:∀Q:Ending→World→Prop,(∀W',Db W0 rec (w.heap.size+1) (W0.heap.size+1) W0.heap.size (i+1) W'→Go.Rg.Kept (Jz (w.heap.size+1) (W0.heap.size+1) W0.heap.size) W W'→Q (.returned (.bool true)) W')→YieldAt Fence.wide 0 Tryz.prog (W0.heap.size+1) #[iP x] W Q from
    H _ (fun W' h1 h2=> .inl ⟨rfl,h1,h2⟩)
   intro Q hQ
   have hyl:=run_yield (P:=Tryz.prog) (args:=#[iP x]) hI.L (by rw[hrec];rfl)
   have hid:({ { rec with state:= .busy } with state:=if(none:Option Code).isNone then .ready else .done,pending:=none }:Loop)=rec:=by rw[hrec];rfl
   have hll:W0.heap.size+1<W.heap.size:=(Array.getElem?_eq_some_iff.1 hI.L).1
   have hkl:W0.heap.size<W.heap.size:=(Array.getElem?_eq_some_iff.1 hI.K).1
   have hal:=hI.at_.lt
   have hbr:=run_beginRound (P:=Tryz.prog) hI.L hrs
   obtain⟨W2,hW2⟩:∃W2,W.putObj (W0.heap.size+1) (.loop { rec with state:= .busy })=W2:=⟨_,rfl⟩
   rw[hW2]at hbr
   have hg2:W.grownBy W2 (some (W0.heap.size+1)):=by rw[←hW2];exact grownBy_putObj _ _ _
   have ha2:Boxed W2 (w.heap.size+1) 3 (.int .i64 i):=hI.at_.kept hg2 (by simp;omega)
   have hL2:W2.heap[W0.heap.size+1]? =some (.loop { rec with state:= .busy }):=by rw[←hW2];exact World.putObj_heap_same hll
   have hK2:W2.heap[W0.heap.size]? =some (.deferred (some [])):=(hg2.block _ hkl (by simp)).trans hI.K
   have hg4:=grownBy_setCell W2 ⟨w.heap.size+1,0,none⟩ (.int .i64 ((i:Int)+1))
   have hL4:(W2.setCell ⟨w.heap.size+1,0,none⟩ (.int .i64 ((i:Int)+1))).heap[W0.heap.size+1]? =some (.loop { rec with state:= .busy }):=
    (hg4.block _ (Array.getElem?_eq_some_iff.1 hL2).1 (by simp;omega)).trans hL2
   have hK4:(W2.setCell ⟨w.heap.size+1,0,none⟩ (.int .i64 ((i:Int)+1))).heap[W0.heap.size]? =some (.deferred (some [])):=
    (hg4.block _ (Array.getElem?_eq_some_iff.1 hK2).1 (by simp;omega)).trans hK2
   have her:=run_endRound (P:=Tryz.prog) none hL4
   have hg5:=grownBy_putObj (W2.setCell ⟨w.heap.size+1,0,none⟩ (.int .i64 ((i:Int)+1))) (W0.heap.size+1) (.loop { { rec with state:= .busy } with state:=if(none:Option Code).isNone then .ready else .done,pending:=none })
   have hfin:Db W0 rec (w.heap.size+1) (W0.heap.size+1) W0.heap.size (i+1) ((W2.setCell ⟨w.heap.size+1,0,none⟩ (.int .i64 ((i:Int)+1))).putObj (W0.heap.size+1) (.loop { { rec with state:= .busy } with state:=if(none:Option Code).isNone then .ready else .done,pending:=none })):=by
    have l5:=World.putObj_heap_same (o:= .loop { { rec with state:= .busy } with state:=if(none:Option Code).isNone then .ready else .done,pending:=none }) (Array.getElem?_eq_some_iff.1 hL4).1
    refine⟨(ha2.set _).kept hg5 (by simp;omega),?_,(hg5.block _ (Array.getElem?_eq_some_iff.1 hK4).1 (by simp)).trans hK4,⟨Nat.le_trans hI.old.size (Nat.le_trans hg2.size (Nat.le_trans hg4.size hg5.size)),fun b hb hx=>?_⟩,
     ((hI.below.grown hg2 (Nat.zero_le _) (fun _ _=>Nat.zero_le _)).grown hg4 (Nat.zero_le _) (fun _ _=>Nat.zero_le _)).grown hg5 (Nat.zero_le _) (fun _ _=>Nat.zero_le _)⟩
    ·rw[hid]at l5 ⊢;exact l5
    ·have b1:=Nat.lt_of_lt_of_le hb hI.old.size
     have b2:=Nat.lt_of_lt_of_le b1 hg2.size
     have b4:=Nat.lt_of_lt_of_le b2 hg4.size
     exact(hg5.block b b4 (by simp;omega)).trans ((hg4.block b b2 (by simpa using hx)).trans ((hg2.block b b1 (by simp;omega)).trans (hI.old.block b hb hx)))
   have hkept:Go.Rg.Kept (Jz (w.heap.size+1) (W0.heap.size+1) W0.heap.size) W ((W2.setCell ⟨w.heap.size+1,0,none⟩ (.int .i64 ((i:Int)+1))).putObj (W0.heap.size+1) (.loop { { rec with state:= .busy } with state:=if(none:Option Code).isNone then .ready else .done,pending:=none })):=by
    refine⟨Nat.le_trans hg2.size (Nat.le_trans hg4.size hg5.size),fun j hj hTj=>?_⟩
    have hjA:j≠w.heap.size+1:=fun e=>hTj ⟨hj, .inl e⟩
    have hjl:j≠W0.heap.size+1:=fun e=>hTj ⟨hj, .inr (.inl e)⟩
    have hjD:j≠W0.heap.size:=fun e=>hTj ⟨hj, .inr (.inr e)⟩
    have b2:=Nat.lt_of_lt_of_le hj hg2.size
    have b4:=Nat.lt_of_lt_of_le b2 hg4.size
    refine⟨(hg5.block j b4 (by simpa using hjl)).trans ((hg4.block j b2 (by simpa using hjA)).trans (hg2.block j hj (by simpa using hjl))),?_⟩
    rintro⟨_,e|e|e⟩
    ·exact hjA e
    ·exact hjl e
    ·exact hjD e
   have FIN:Hid (∃v w',(Instr.endRound (W0.heap.size+1) none).run Tryz.prog (W2.setCell ⟨w.heap.size+1,0,none⟩ (.int .i64 ((i:Int)+1)))= .ok v w'∧Q (.returned v) w'):=
    ⟨_,_,her,hQ _ hfin hkept⟩
   have hwr:IntKind.wrap .i64 ((i:Int)+1)=(i:Int)+1:=by
    rw[IntKind.wrap_i64];omega
   have r1:=ha2.cell
   have r2:=ha2.frozen
   clear hQ hfin hkept her hg5 hL4 hK4 hg4 hg2 hW2 hI hL2 hK2 ha2 hid
   obtain⟨tm,hys⟩:∃tm,(rec.params.zip #[iP x]).foldl (fun tmps (t,a)=>tmps.setIfInBounds t a) rec.tmps=tm:=⟨_,rfl⟩
   rw[hys]at hyl
   refine⟨rec.fn,tm,rec.assign,rec.body,hyl,roundIn_of_wpIn trivial ?_⟩
   obtain rfl:tm= #[.slice a bs.length cap, .agg #[.int .i64 fr, .int .i64 to],undef, .pointer (some ⟨w.heap.size,0,none⟩), .int .i64 0, .pointer (some ⟨w.heap.size+1,0,none⟩), .agg #[.int .i64 fr, .int .i64 to], .slice a bs.length cap, .int .i64 bs.length, .bool true, .bool false, .slice a bs.length cap, .agg #[.int .i64 fr, .int .i64 to],
     .func (.func 123) #[] #[.pointer (some ⟨w.heap.size+1+1+1+1,0,none⟩), .pointer (some ⟨w.heap.size+1+1+1,0,none⟩)],iP x,undef,undef,undef]:=by rw[←hys,hrec];simp
   clear hys
   have hbody:=congrArg Loop.body hrec
   have hassign:=congrArg Loop.assign hrec
   simp only at hbody hassign
   rw[hbody,hassign]
   clear hbody hassign hyl hz0
   gi_wp2
   exact FIN.out
  ·rintro e' W2 ⟨⟨v0,rfl⟩,h2⟩
   replace h2:=h2.resolve_right id
   have hend:=run_endLoop (P:=Tryz.prog) h2.L (by rw[hrs];simp)
   rw[hrp]at hend
   obtain⟨W3,hW3⟩:∃W3,W2.putObj (W0.heap.size+1) (.loop { rec with state:= .exhausted })=W3:=⟨_,rfl⟩
   rw[hrp]at hW3
   rw[hW3]at hend
   have hg3:W2.grownBy W3 (some (W0.heap.size+1)):=by rw[←hW3];exact grownBy_putObj _ _ _
   have hkl:W0.heap.size<W2.heap.size:=(Array.getElem?_eq_some_iff.1 h2.K).1
   have ha3:Boxed W3 (w.heap.size+1) 3 (.int .i64 (aU fr to bs).length):=h2.at_.kept hg3 (by simp;omega)
   have hK3:W3.heap[W0.heap.size]? =some (.deferred (some [])):=(hg3.block _ hkl (by simp)).trans h2.K
   have hb3:Below w.heap.size w W3:=by
    refine⟨hg3.os.trans (h2.below.os.trans hb0w.os),hg3.tape.trans (h2.below.tape.trans hb0w.tape),hg3.output.trans (h2.below.output.trans hb0w.output),Nat.le_trans hb0w.size (Nat.le_trans h2.old.size hg3.size),fun k hk=>?_⟩
    have k0:k<W0.heap.size:=by omega
    exact(hg3.block k (Nat.lt_of_lt_of_le k0 h2.old.size) (by simp;omega)).trans ((h2.old.block k k0 (by omega)).trans (hb0w.block k hk))
   have r1:=ha3.cell
   have r2:=ha3.frozen
   clear hW3 h2 hT hI0 hrs hrp hrec HC HR
   refine⟨none,W3,hend,?_⟩
   have hdle:=hb0w.size
   clear hend hz0 hb0w hg3 hkl ha3
   gi_wp2
   refine⟨by simp, .inl ⟨_,_,rfl,run_takeDeferred hK3,?_⟩⟩
   exact⟨_,results_tmp rfl _ _ _,rfl,hb3.grown (grownBy_putObj _ _ _) hb3.size (fun k e=>by cases e;omega)⟩
 ·have hd:decide (0≤fr∧fr≤to∧to≤(bs.length:Int))=false:=by simpa using hin
  rw[hw1,hd]
  clear hw1
  gi_wp2
  rw[show aU fr to bs=[]from HR.out.1 hin]
  refine⟨_,results_tmp rfl _ _ _,rfl,?_⟩
  exact(((Below.refl _ w).alloc (Nat.le_refl _) _).alloc (by simp) _).alloc (by simp;omega) _
end Go.Proofs.YtdoaoaicdimbeaaGreatDoor
end
section
namespace Go.Proofs.YtdoaoaicdimbeaaGreatDoor
open Go.Shelf Go.RowKit Go.Ev
theorem E9:(Tryz.prog.info? 72).map (·.size)=some 2:=by kernel_rfl
theorem JA:liesAt Tryz.prog Tryz.prog.depth 72 (2 / Tryz.prog.cellsOf 72) 0 72 1=true:=by kernel_rfl
theorem byteCells:Tryz.prog.cellsOf 5=1:=by kernel_rfl
set_option maxHeartbeats 1000000 in
set_option maxRecDepth 100000 in
theorem ED (b:Nat) (w:World) (h0:w.cell? ⟨b,0,none⟩=some (.pointer (some ⟨b,0,none⟩))):
  Calls Tryz.prog 54 #[.pointer (some ⟨b,0,none⟩)] w fun e w' =>e= .returned (.tuple #[])∧w' =w:=by
 obtain⟨j,hj,_⟩:=Option.map_eq_some_iff.1 E9
 go_enter Tryz.func54,Tryz.ntmps54
 go_wp2
 rw[Lib.run_neq_ptr_same w _ Tryz.underlying70 hj]
 go_wp2
 go_end0
 exact⟨rfl,rfl⟩
set_option maxHeartbeats 1000000 in
set_option maxRecDepth 100000 in
theorem Dc (b:Nat) (w:World) (h0:w.cell? ⟨b,0,none⟩=some (.pointer none)) (hsh:w.shape? b=some (72,2)) (hfz:w.frozen? ⟨b,0,none⟩=false):
  Calls Tryz.prog 54 #[.pointer (some ⟨b,0,none⟩)] w fun e w' =>e= .returned (.tuple #[])∧w' =w.setCell ⟨b,0,none⟩ (.pointer (some ⟨b,0,none⟩)):=by
 obtain⟨j,hj,hjs⟩:=Option.map_eq_some_iff.1 E9
 go_enter Tryz.func54,Tryz.ntmps54
 go_wp2
 rw[Lib.run_to_unsafe w ⟨b,0,none⟩ Tryz.underlying70 Tryz.underlying171 hj (by rw[hjs];decide) hsh (Nat.zero_lt_succ 1)]
 simp only[Result.andThen]
 rw[Oper.upon_value]
 go_wp2
 rw[run_callFunc_extern Tryz.func94 (by kernel_rfl) (by kernel_rfl) (by kernel_rfl) (e:=Extern.AbiNoEscape.same) (by kernel_rfl)]
 rw[Lib.run_noEscape]
 simp only[Result.andThen]
 rw[Oper.upon_value]
 go_wp2
 rw[Lib.run_from_unsafe w ⟨b,0,none⟩ Tryz.underlying171 Tryz.underlying70 hj hsh JA]
 simp only[Result.andThen]
 rw[Oper.upon_value]
 go_wp2
 go_end0
 exact⟨rfl,rfl⟩
set_option maxHeartbeats 2000000 in
set_option maxRecDepth 100000 in
theorem Dd (b g cap cells:Nat) (l:List UInt8) (w:World) (h0:l≠[]) (hc1:w.cell? ⟨b,1,none⟩=some (.slice (some ⟨g,0,none⟩) l.length cap)) (hn:l.length≤cap)
  (hsh:w.shape? g=some (5,cells)) (hcl:l.length≤cells) (hbig:l.length≤9223372036854775807) (hcell:∀j x,l[j]? =some x→w.cell? ⟨g,j,none⟩=some (.int .u8 x.toNat)):
  Calls Tryz.prog 29 #[.pointer (some ⟨b,0,none⟩)] w fun e w' =>e= .returned (.string ⟨l.toArray⟩)∧w' =w.drew.freeze ⟨g,0,none⟩ l.length:=by
 have hl0:l.length≠0:=by simpa using h0
 have c1:w.drew.cell? ⟨b,1,none⟩=some (.slice (some ⟨g,0,none⟩) l.length cap):=hc1
 have hSD:(Builtin.unsafeSliceData_ #[40] 119 #[.slice (some ⟨g,0,none⟩) l.length cap]).run Tryz.prog w.drew= .ok (.pointer (some ⟨g,0,none⟩)) w.drew:=
  Lib.run_unsafeSliceData_row _ _ _ _ _ _ (by omega)
 have hUS:(Builtin.unsafeString_ #[119,3] 9 #[.pointer (some ⟨g,0,none⟩), .int .i64 l.length]).run Tryz.prog w.drew= .ok (.string ⟨l.toArray⟩) (w.drew.freeze ⟨g,0,none⟩ l.length):=by
  refine Lib.run_unsafeString_row w.drew 119 3 9 5 Tryz.underlying119 byteCells g cells hsh l h0 hcl (by omega) ?_
  intro j x hx
  have:=hcell j x hx
  rw[Addr.add_lit,Nat.zero_add]
  exact this
 go_enter Tryz.func29,Tryz.ntmps29
 go_wp2
 go_region
 all_goals (go_wp2;go_ret;exact⟨rfl,rfl⟩)
theorem Gb {P:Program} {w:World} {b:Nat} (h:b<w.heap.size):∃r,(viewAt b).run P w= .ok r w:=by
 obtain⟨o,ho⟩:∃o,w.heap[b]? =some o:=⟨_,Array.getElem?_eq_getElem h⟩
 unfold viewAt
 cases hs:w.shape? b with
 |some sh=>exact⟨none,by simp[hs]⟩
 |none=>
  cases o with
  |cells c e fr=>simp[World.shape?,ho]at hs
  |view p t=>
   have hg:(getObj b).run P w= .ok (.view p t) w:=by simp[getObj,Sem.run,ho]
   exact⟨_,by simp[hs,hg];rfl⟩
  |_=>
   have hg:∃x,(getObj b).run P w= .ok x w∧∀p t,x≠ .view p t:=⟨_,by simp only[getObj,Sem.run,ho];exact⟨rfl,fun p t e=>by cases e⟩⟩
   obtain⟨x,hg,hx⟩:=hg
   refine⟨none,?_⟩
   simp[hs,hg]
set_option maxHeartbeats 2000000 in
set_option maxRecDepth 100000 in
theorem De (b cap:Nat) (a:Option Addr) (w:World) (hc1:w.cell? ⟨b,1,none⟩=some (.slice a 0 cap)) (ha:∀p,a=some p→p.block<w.heap.size):
  Calls Tryz.prog 29 #[.pointer (some ⟨b,0,none⟩)] w fun e w' =>e= .returned (.string ⟨#[]⟩)∧(w' =w.drew∨∃o,w' =w.drew.alloc o):=by
 have hUS:∀q W,(Builtin.unsafeString_ #[119,3] 9 #[.pointer q, .int .i64 0]).run Tryz.prog W= .ok (.string .empty) W:=fun q W=>Lib.run_unsafeString_none W _ _ _ q
 have hbl:b<w.heap.size:=World.block_lt_of_cell? w _ hc1
 have c1:w.drew.cell? ⟨b,1,none⟩=some (.slice a 0 cap):=hc1
 have hSD:∃q W,(Builtin.unsafeSliceData_ #[40] 119 #[.slice a 0 cap]).run Tryz.prog w.drew= .ok (.pointer q) W∧(W=w.drew∨∃o,W=w.drew.alloc o):=by
  cases a with
  |none=>exact⟨none,_,rfl, .inl rfl⟩
  |some p=>
   by_cases h0:cap=0
   ·subst h0
    obtain⟨r,hr⟩:=Gb (P:=Tryz.prog) (w:=w.drew) (b:=p.block) (ha p rfl)
    have hdef:Builtin.unsafeSliceData_ #[40] 119 #[.slice (some p) 0 0]=
      (do
       if(0:Nat)≠0 then pure (.pointer (some p))
       else if(←viewAt p.block).isSome then pure (.pointer (some p))
       else pure (.pointer (some ⟨←newObj (.view p (←elemOf 119)),0,none⟩))):=rfl
    rw[hdef]
    cases r with
    |some r=>exact⟨some p,w.drew,by simp[hr], .inl rfl⟩
    |none=>exact⟨_,_,by simp[hr,elemOf,run_underlying Tryz.underlying119];exact⟨rfl,rfl⟩, .inr ⟨_,rfl⟩⟩
   ·exact⟨some p,w.drew,Lib.run_unsafeSliceData_row _ _ _ _ _ _ h0, .inl rfl⟩
 obtain⟨q,W,hSD,hW⟩:=hSD
 have c2:W.cell? ⟨b,1,none⟩=some (.slice a 0 cap):=by
  rcases hW with rfl|⟨o,rfl⟩
  ·exact c1
  ·exact(World.cell?_of_block (Below.heap_alloc w.drew o b hbl)).trans c1
 go_enter Tryz.func29,Tryz.ntmps29
 go_wp2
 go_region
 all_goals (go_wp2;go_ret;exact⟨rfl,hW⟩)
end Go.Proofs.YtdoaoaicdimbeaaGreatDoor
end
section
namespace Go.Ev
section
variable {c : Cfg} {E : Ent} {w w' : World} {G G' : Gh} {μ : List Nat} {env : List V} {tmps : List Value} {objs : List Ob}
theorem Sim.regrind (h:Sim c E w G μ env tmps objs) {g:Nat} (hg:g<E.w.heap.size→E.U g) (hfree:cnt g (aJ aG env tmps)+cnt g (aL w objs μ)+μ.count g=0)
  (hk:∀k,k≠g→w'.heap[k]? =w.heap[k]?) (hcell:∀o,w'.cell? ⟨g,o,none⟩=w.cell? ⟨g,o,none⟩) (hs:w'.heap.size=w.heap.size) (hos:w'.os=w.os) (hout:w'.output=w.output) (htape:w'.tape=w.tape):
  Sim c E w' G μ env tmps objs:=by
 have hseal:jF w G w' G:=⟨fun b o _=>by
  by_cases hb:b=g
  ·subst hb;exact hcell o
  ·exact bW (hk b hb),fun _=>Nat.le_refl _,by omega⟩
 have hμ:∀b∈μ,b≠g:=fun b hb e=>by subst e;have:=List.count_pos_iff.2 hb;omega
 have hO:aL w' objs μ=aL w objs μ:=cA objs μ fun b hb=>hk b (hμ b hb)
 have hl:∀l∈aJ aG env tmps++aL w objs μ,l.a.block≠g:=fun l hl e=>by
  rw[List.mem_append]at hl
  rcases hl with hl|hl
  ·have:=cP.2 ⟨l,hl,e⟩;omega
  ·have:=cP.2 ⟨l,hl,e⟩;omega
 refine⟨⟨h.inv.len,fun i v x hv hx=>(h.inv.rep i v x hv hx).mono hseal,h.inv.olen,fun i o b ho hb=>(h.inv.obs i o b ho hb).mono hseal (hk b (hμ b (List.mem_of_getElem? hb))),
  fun b=>by rw[hO];exact h.inv.one b,fun l hl' =>?_,fun b hb=>⟨by rw[hs];exact(h.inv.mine b hb).1,(h.inv.mine b hb).2⟩,fun b hb=>h.inv.none b (by omega),fun g1 k1 zs1 hg1=>(h.inv.glob g1 k1 zs1 hg1).mono hseal⟩,
  ⟨by rw[hs];exact h.stp.size,h.stp.sealed.trans hseal,fun b hb hu=>?_,hos.trans h.stp.os,hout.trans h.stp.out,htape.trans h.stp.tape⟩,fun b hb hc=>h.own b hb (by rw[hO]at hc;exact hc),h.pre⟩
 ·rw[hO]at hl'
  exact(h.inv.ok l hl').same (hk _ (hl l hl')) rfl hseal
 ·have hne:b≠g:=fun e=>hu (by subst e;exact hg hb)
  exact⟨(hk b hne).trans (h.stp.keep b hb hu).1,(h.stp.keep b hb hu).2⟩
theorem Sim.begin_ {args:List V} {cargs:List Value} (hinv:Inv c w G μ args cargs objs):Sim c (entry w G μ args cargs objs) w G μ args cargs objs:=
 ⟨hinv,⟨Nat.le_refl _,jF.refl w G,fun _ _ _=>⟨rfl,rfl⟩,rfl,rfl,rfl⟩,fun b _ h=>h,[],by simp[entry]⟩
def checkF:Fun
 |[.ref 0 0],[.cells [.opt 0 0, .lst 5 true xs]]=>some (.tup [],[.cells [.opt 0 0, .lst 5 true xs]])
 |_,_=>none
def qN:V→Bool
 | .int .u8 n=>decide (0≤n)&&decide (n<256)
 |_=>false
theorem lX:∀{xs:List V},xs.all qN=true→ofBytes (bytesOf xs)=xs
 |[],_=>rfl
 |v::xs,h=>by
  simp only[List.all_cons,Bool.and_eq_true]at h
  have ih:=lX h.2
  cases v with
  |int k n=>
   cases k<;>simp[qN]at h
   simp only[bytesOf,ofBytes,List.map_cons,V.getI]at ih ⊢
   rw[ih]
   congr 2
   have:=h.1
   simp
   omega
  |_=>simp[qN]at h
def textF:Fun
 |[.ref 0 0],[.cells [.opt 0 0, .lst 5 true xs]]=>if xs.all qN&&decide (xs.length<1152921504606846976)then some (.str (bytesOf xs),[.cells [.opt 0 0, .lst 5 false xs]])else none
 |_,_=>none
end
end Go.Ev
namespace Go.Proofs.YtdoaoaicdimbeaaGreatDoor
open Go.Shelf Go.RowKit Go.Ev
theorem Hb {c:Cfg} (hP:c.P=Tryz.prog) (hb:∀t,c.bld t=true→t=72) (hcut:c.cutO 54=false)
  (hr:∀fn rsh,c.fn 54=some fn→fJ c 54 fn=some rsh→jM rsh (.tup [])=true):cE c 54 checkF:=by
 have hF:∀args objs v objs',checkF args objs=some (v,objs')→∃xs,args=[.ref 0 0]∧objs=[.cells [.opt 0 0, .lst 5 true xs]]∧v= .tup []∧objs' =objs:=by
  intro args objs v objs' h
  unfold checkF at h
  split at h
  ·cases h;exact⟨_,rfl,rfl,rfl,rfl⟩
  ·cases h
 refine⟨fun args objs v objs' _ h=>?_,fun fn rsh hfn hrsh args objs v objs' h w G μ cargs hlen hinv=>?_⟩
 ·obtain⟨_,_,_,_,e⟩:=hF _ _ _ _ h
  exact e
 ·obtain⟨xs,rfl,rfl,rfl,rfl⟩:=hF _ _ _ _ h
  refine⟨hr fn rsh hfn hrsh,?_,?_⟩
  ·simp[Cfg.osh,hcut,OSh.of,gI,OSh.fits,CSh.of,cH,CSh.fits]
  ·have hol:=hinv.olen
   obtain⟨b,rfl⟩:∃b,μ=[b]:=by
    match μ,hol with
    |[b],_=>exact⟨b,rfl⟩
   have hsim:=Sim.begin_ hinv
   obtain⟨x,rfl⟩:∃x,cargs=[x]:=by
    match cargs,hlen with
    |[x],_=>exact⟨x,rfl⟩
   obtain⟨b',hb',rfl⟩:=lA (hinv.rep 0 _ _ rfl rfl) rfl
   simp at hb'
   subst hb'
   obtain⟨l,elem,fr,h1,h2,h3,h4,h5,h6⟩:=hinv.obs 0 _ _ rfl rfl
   have hel:=hb elem (h6 0 0 rfl)
   subst hel
   match l,h3 with
   |[x0,x1],_=>
    have hr0:=h5 0 _ x0 rfl rfl
    have fin:∀w',Sim c (entry w G [b] [.ref 0 0] [.pointer (some ⟨b,0,none⟩)] [.cells [.opt 0 0, .lst 5 true xs]]) w' G [b] [.ref 0 0] [.pointer (some ⟨b,0,none⟩)] [.cells [.opt 0 0, .lst 5 true xs]]→
      Sim c (entry w G [b] [.ref 0 0] [.pointer (some ⟨b,0,none⟩)] [.cells [.opt 0 0, .lst 5 true xs]]) w' G [b] [.tup []] [.tuple #[]] [.cells [.opt 0 0, .lst 5 true xs]]:=fun w' hs=>
     (hs.push (v:= .tup []) (x:= .tuple #[]) (.tup [] [] rfl (fun i v x hv=>by simp at hv)) rfl).firsts (fr:=[.tup []]) (cfr:=[.tuple #[]]) rfl
    have hx0:x0= .pointer none∨x0= .pointer (some ⟨b,0,none⟩):=by
     cases hr0 with
     |opt _ _ b' _ hb' hx=>simp at hb';subst hb';exact hx
    have hc0:w.cell? ⟨b,0,none⟩=some x0:=by simp[World.cell?,h1]
    rw[hP]
    rcases hx0 with rfl|rfl
    ·have hsh:w.shape? b=some (72,2):=by simp[World.shape?,h1]
     have hfz:w.frozen? ⟨b,0,none⟩=false:=by
      have:=h2 0 (by simp)
      simp[World.frozen?,h1]
      omega
     refine(Dc b w hc0 hsh hfz).mono ?_
     rintro e w' ⟨rfl,rfl⟩
     refine⟨_,G,rfl,fin _ ?_⟩
     have hlt:=dI h1
     have hw:(w.setCell ⟨b,0,none⟩ (.pointer (some ⟨b,0,none⟩))).heap[b]? =some (.cells [.pointer (some ⟨b,0,none⟩),x1].toArray 72 fr):=by
      simp only[World.setCell,Array.getElem?_modify,h1,if_true]
      rfl
     have hother:∀k,k≠b→(w.setCell ⟨b,0,none⟩ (.pointer (some ⟨b,0,none⟩))).heap[k]? =w.heap[k]? :=fun k hk=>Below.heap_setCell _ _ _ k hk
     have hG:=(hinv.mine b (by simp)).2
     have hseal:jF w G (w.setCell ⟨b,0,none⟩ (.pointer (some ⟨b,0,none⟩))) G:=by
      refine⟨fun k o ho=>?_,fun _=>Nat.le_refl _,by simp[World.setCell]⟩
      have:k≠b:=fun e=>by rw[e,hG]at ho;omega
      exact bW (hother k this)
     have:=hsim.reob (i:=0) (b:=b) (o:= .cells [.opt 0 0, .lst 5 true xs]) (o' := .cells [.opt 0 0, .lst 5 true xs]) (w' :=w.setCell ⟨b,0,none⟩ (.pointer (some ⟨b,0,none⟩)))
      (env' :=[.ref 0 0]) (tmps' :=[.pointer (some ⟨b,0,none⟩)]) rfl rfl hother (by simp[World.setCell]) rfl rfl rfl (by simp) hinv.rep ?_ (fun q=>?_) (fun l hl=>?_)
     ·exact this
     ·refine⟨[.pointer (some ⟨b,0,none⟩),x1],_,fr,hw,h2,rfl,fun y hy=>?_,fun i v y hv hy=>?_,h6⟩
      ·rcases List.mem_cons.1 hy with rfl|hy
       ·rfl
       ·exact h4 y (List.mem_cons_of_mem _ hy)
      ·match i,hv,hy with
       |0,hv,hy=>simp at hv hy;subst hv;subst hy;exact .opt 0 0 b _ rfl (.inr rfl)
       |1,hv,hy=>simp at hv hy;subst hv;subst hy;exact(h5 1 _ x1 rfl rfl).mono hseal
     ·have e1:bD (w.setCell ⟨b,0,none⟩ (.pointer (some ⟨b,0,none⟩))) (.cells [.opt 0 0, .lst 5 true xs]) b=bD w (.cells [.opt 0 0, .lst 5 true xs]) b:=by
       simp[bD,cC,hw,h1,aJ,aX]
      rw[e1];exact Nat.le_refl _
     ·have e1:bD (w.setCell ⟨b,0,none⟩ (.pointer (some ⟨b,0,none⟩))) (.cells [.opt 0 0, .lst 5 true xs]) b=bD w (.cells [.opt 0 0, .lst 5 true xs]) b:=by
       simp[bD,cC,hw,h1,aJ,aX]
      rw[e1]at hl;exact hl
    ·refine(ED b w hc0).mono ?_
     rintro e w' ⟨rfl,rfl⟩
     exact⟨_,G,rfl,fin _ hsim⟩
theorem JB {c:Cfg} (hc:aZ c) (hP:c.P=Tryz.prog) (hcut:c.cutO 29=true) (hsz:aF c 5=1) (hro:c.ro 29=false)
  (hr:∀fn rsh s,c.fn 29=some fn→fJ c 29 fn=some rsh→jM rsh (.str s)=true):cE c 29 textF:=by
 have hF:∀args objs v objs',textF args objs=some (v,objs')→∃xs,args=[.ref 0 0]∧objs=[.cells [.opt 0 0, .lst 5 true xs]]∧v= .str (bytesOf xs)∧objs' =[.cells [.opt 0 0, .lst 5 false xs]]∧
   xs.all qN=true∧xs.length<1152921504606846976:=by
  intro args objs v objs' h
  unfold textF at h
  split at h
  ·split at h
   ·rename_i hx
    simp only[Bool.and_eq_true,decide_eq_true_eq]at hx
    cases h
    exact⟨_,rfl,rfl,rfl,rfl,hx⟩
   ·cases h
  ·cases h
 refine⟨fun args objs v objs' hq h=>?_,fun fn rsh hfn hrsh args objs v objs' h w G μ cargs hlen hinv=>?_⟩
 ·obtain⟨xs,_,rfl,_⟩:=hF _ _ _ _ h
  rcases hq with hq|⟨_,hq⟩
  ·rw[hro]at hq;cases hq
  ·cases hq
 ·obtain⟨xs,rfl,rfl,rfl,rfl,hby,hbig⟩:=hF _ _ _ _ h
  refine⟨hr fn rsh _ hfn hrsh,?_,?_⟩
  ·simp[Cfg.osh,hcut,OSh.of,OSh.soft,gI,OSh.fits,CSh.of,CSh.soft,cH,CSh.fits]
  ·have hol:=hinv.olen
   obtain⟨b,rfl⟩:∃b,μ=[b]:=by
    match μ,hol with
    |[b],_=>exact⟨b,rfl⟩
   have hsim:=Sim.begin_ hinv
   obtain⟨x,rfl⟩:∃x,cargs=[x]:=by
    match cargs,hlen with
    |[x],_=>exact⟨x,rfl⟩
   obtain⟨b',hb',rfl⟩:=lA (hinv.rep 0 _ _ rfl rfl) rfl
   simp at hb'
   subst hb'
   obtain⟨l,elem,fr,h1,h2,h3,h4,h5,h6⟩:=hinv.obs 0 _ _ rfl rfl
   match l,h3 with
   |[x0,x1],_=>
    obtain⟨a,cap,lo,rfl,hl,hrr,hf,hs,hz,hcap,ha,hrow⟩:=mL (h5 1 _ x1 rfl rfl) rfl
    have hc1:w.cell? ⟨b,1,none⟩=some (.slice a xs.length cap):=by simp[World.cell?,h1]
    have hcat:cC w b=[x0, .slice a xs.length cap]:=by unfold cC;rw[h1]
    have hcutS:Sim c (entry w G [b] [.ref 0 0] [.pointer (some ⟨b,0,none⟩)] [.cells [.opt 0 0, .lst 5 true xs]]) w G [b] [.ref 0 0] [.pointer (some ⟨b,0,none⟩)] [.cells [.opt 0 0, .lst 5 false xs]]:=by
     have:=hsim.reob (i:=0) (b:=b) (o:= .cells [.opt 0 0, .lst 5 true xs]) (o' := .cells [.opt 0 0, .lst 5 false xs]) (w' :=w)
      (env' :=[.ref 0 0]) (tmps' :=[.pointer (some ⟨b,0,none⟩)]) rfl rfl (fun _ _=>rfl) rfl rfl rfl rfl (by simp) hinv.rep ?_ (fun q=>?_) (fun l hl=>?_)
     ·exact this
     ·refine⟨[x0, .slice a xs.length cap],elem,fr,h1,h2,rfl,h4,fun i v y hv hy=>?_,h6⟩
      match i,hv,hy with
      |0,hv,hy=>simp at hv hy;subst hv;subst hy;exact h5 0 _ _ rfl rfl
      |1,hv,hy=>simp at hv hy;subst hv;subst hy;exact(h5 1 _ _ rfl rfl).cut1
     ·have:bD w (.cells [.opt 0 0, .lst 5 false xs]) b=[]:=by simp[bD,hcat,aJ,aX]
      rw[this];simp[cnt]
     ·have:bD w (.cells [.opt 0 0, .lst 5 false xs]) b=[]:=by simp[bD,hcat,aJ,aX]
      rw[this]at hl
      rcases hl with hl|hl
      ·exact .inl hl
      ·cases hl
    have fin:∀w' G' s,Sim c (entry w G [b] [.ref 0 0] [.pointer (some ⟨b,0,none⟩)] [.cells [.opt 0 0, .lst 5 true xs]]) w' G' [b] [.ref 0 0] [.pointer (some ⟨b,0,none⟩)] [.cells [.opt 0 0, .lst 5 false xs]]→
      Sim c (entry w G [b] [.ref 0 0] [.pointer (some ⟨b,0,none⟩)] [.cells [.opt 0 0, .lst 5 true xs]]) w' G' [b] [.str s] [.string ⟨s.toArray⟩] [.cells [.opt 0 0, .lst 5 false xs]]:=fun w' G' s hs=>
     (hs.push (v:= .str s) (x:= .string ⟨s.toArray⟩) (.str s) rfl).firsts (fr:=[.str s]) (cfr:=[.string ⟨s.toArray⟩]) rfl
    rw[hP]
    by_cases hx0:xs=[]
    ·subst hx0
     refine(De b cap a w hc1 ha.2).mono ?_
     rintro e w' ⟨rfl,hw⟩
     have hd:=hcutS.ext (dV.of_drew hinv.none)
     rcases hw with rfl|⟨o,rfl⟩
     ·exact⟨_,G,rfl,fin _ _ [] hd⟩
     ·exact⟨_,_,rfl,fin _ _ [] (hd.ext (dV.of_alloc (w:=w.drew) (G:=G) hd.inv.none o 0))⟩
    ·have hpos:0<xs.length:=List.length_pos_iff.2 hx0
     cases ha0:a with
     |none=>have:=ha.1 ha0;omega
     |some p=>
      subst ha0
      have hmem:(⟨5,p,xs.length,cap,none⟩:dJ)∈aL w [.cells [.opt 0 0, .lst 5 true xs]] [b]:=by
       have hcp:0<cap:=by omega
       simp[aL,hcat,aJ,aX,hcp]
      obtain⟨g1,cs,el,fr',g2,g3,g4,g5,g6,g7⟩:=hinv.ok _ (List.mem_append_right _ hmem)
      simp only at g1 g2 g4 g6 g7
      subst g6
      obtain⟨pb,po,ps⟩:=p
      simp only at g1 g2 g4 g7
      subst g1;subst g7
      obtain⟨_,hrow⟩:=hrow _ rfl hx0
      have hxb:=lX hby
      have hlo:lo=(bytesOf xs).map (fun b=>Value.int .u8 b.toNat):=by
       apply List.ext_getElem?
       intro i
       by_cases hi:i<xs.length
       ·have e1:xs[i]? =(ofBytes (bytesOf xs))[i]? :=by rw[hxb]
        have hbl:(bytesOf xs).length=xs.length:=by simp[bytesOf]
        simp only[ofBytes,List.getElem?_map]at e1
        rw[List.getElem?_eq_getElem (by omega:i<(bytesOf xs).length)]at e1
        have:=cM (hrr i _ lo[i] e1 (List.getElem?_eq_getElem (by omega))) rfl
        rw[List.getElem?_eq_getElem (by omega:i<lo.length),this,List.getElem?_map,List.getElem?_eq_getElem (by omega:i<(bytesOf xs).length)]
        rfl
       ·have hbl:(bytesOf xs).length=xs.length:=by simp[bytesOf]
        rw[List.getElem?_eq_none (by omega),List.getElem?_eq_none (by simp;omega)]
      have hbl:(bytesOf xs).length=xs.length:=by simp[bytesOf]
      have hcell:∀j x,(bytesOf xs)[j]? =some x→w.cell? ⟨pb,j,none⟩=some (.int .u8 x.toNat):=by
       intro j x hj
       have:=(hrow j (.int .u8 x.toNat) (by rw[hlo,iG,List.getElem?_map,hj];rfl)).1
       simpa using this
      rw[hsz]at g4
      rw[←hbl]at hc1
      refine(Dd b pb cap cs.size (bytesOf xs) w (fun e=>by rw[e]at hbl;simp at hbl;omega) hc1 (by omega) (by simp[World.shape?,g2]) (by omega) (by omega) hcell).mono ?_
      rintro e w' ⟨rfl,rfl⟩
      refine⟨_,G,rfl,fin _ _ _ ?_⟩
      have hd:=hcutS.ext (dV.of_drew hinv.none)
      have hone:=hinv.one pb
      have hcl:0<cnt pb (aL w [.cells [.opt 0 0, .lst 5 true xs]] [b]):=cP.2 ⟨_,hmem,rfl⟩
      refine hd.regrind (g:=pb) (fun _=>?_) ?_ (fun k hk=>?_) (fun o=>?_) ?_ ?_ ?_ ?_
      ·simp only[entry];omega
      ·have e0:aL w.drew [.cells [.opt 0 0, .lst 5 false xs]] [b]=[]:=by
        have:cC w.drew b=[x0, .slice (some ⟨pb,0,none⟩) xs.length cap]:=hcat
        simp[aL,this,aJ,aX]
       rw[e0]
       have e1:cnt pb (aJ aG [V.ref 0 0] [Value.pointer (some ⟨b,0,none⟩)])=0:=rfl
       rw[e1]at hone ⊢
       simp only[rV]
       omega
      ·unfold World.freeze
       split
       ·rfl
       ·simp only[Array.getElem?_modify];rw[if_neg (fun e=>hk e.symm)]
      ·unfold World.freeze
       split
       ·rfl
       ·simp only[World.cell?,Array.getElem?_modify]
        have g2' :w.drew.heap[pb]? =some (.cells cs 5 fr'):=g2
        rw[g2']
        rfl
      ·unfold World.freeze;split<;>simp
      ·unfold World.freeze;split<;>rfl
      ·unfold World.freeze;split<;>rfl
      ·unfold World.freeze;split<;>rfl
end Go.Proofs.YtdoaoaicdimbeaaGreatDoor
end
section
namespace Go.Proofs.YtdoaoaicdimbeaaGreatDoor
open Go.RowKit Go.Shelf Go.Rg Go.Lib
theorem LO:(Tryz.prog.info? 5).map (fun i=>(i.zero,i.size,i.bytes))=some (some (.int .u8 0),1,1):=by kernel_rfl
set_option maxRecDepth 100000 in
set_option maxHeartbeats 2000000 in
theorem JC (ad:Addr) (n c:Nat) (news:List Value) (w:World) (hl:news.length=n) (hn:n≤maxLen) (hbig:n≤140737488355328)
  (hc:∀j u,news[j]? =some u→w.cell? (ad.add j)=some u) (h1:∀u∈news,u.oneCell' =true):
  Calls Tryz.prog 75 #[.slice (some ad) n c] w fun e w' =>∃v',e= .returned v'∧w'.ownsRow w.heap.size 5 1 v' n news∧Below w.heap.size w w' :=by
 obtain⟨i0,hi,hz0,hz1,hz2⟩:=info_parts LO
 have q22:∀(w:World) (a:Option Addr) (n c n' c' :Nat),(binOp .eql 40 (.slice a n c) (.slice none n' c')).run Tryz.prog w= .ok (.bool a.isNone) w:=fun w a n c n' c' =>Lib.run_eql_slice_nil w _ _ a n c n' c' Tryz.underlying40
 have A:Aside (∀j u,news[j]? =some u→w.cell? (ad.add j)=some u):=hc
 clear hc
 go_enter Tryz.func75,Tryz.ntmps75
 go_wp2_with (at_builtin;refine wpList_append_own _ rfl _ _ 40 rfl w.heap.size 5 i0 (.int .u8 0) 1 1 Tryz.underlying40 hi hz0 hz1 hz2 rfl (by decide) _ _ _ rfl (World.ownsRow_made w #[] 0 (Nat.le_refl _) (Nat.zero_le _) (by simp)) ad n c news rfl ?qc1 ?qc2 ?qc3 ?qc4 ?qc5 ?qc6 ?_)
 case qc1=>rw[Nat.mul_one];exact hl
 case qc2=>
  intro j u hj
  exact Lib.cell?_alloc_some _ (A.out j u hj)
 case qc3=>exact h1
 case qc4=>rw[Nat.zero_add];exact hn
 case qc5=>rw[Nat.zero_add,Nat.mul_one];exact hbig
 case qc6=>simp
 intro v' w1 hown hgrow hnil
 go_wp2
 go_ret
 refine⟨v',rfl,by simpa using hown,?_⟩
 exact((Below.refl _ w).alloc (Nat.le_refl _) _).grown hgrow (by simp) (by intro k hk;simp[Value.ownBlock]at hk;omega)
set_option maxHeartbeats 1000000 in
theorem clone_nil (n c:Nat) (w:World):Calls Tryz.prog 75 #[.slice none n c] w fun e w' =>e= .returned (.slice none 0 0)∧w' =w:=by
 have q22:∀(w:World) (a:Option Addr) (n c n' c' :Nat),(binOp .eql 40 (.slice a n c) (.slice none n' c')).run Tryz.prog w= .ok (.bool a.isNone) w:=fun w a n c n' c' =>Lib.run_eql_slice_nil w _ _ a n c n' c' Tryz.underlying40
 go_enter Tryz.func75,Tryz.ntmps75
 go_wp2
 go_ret
 exact⟨rfl,rfl⟩
end Go.Proofs.YtdoaoaicdimbeaaGreatDoor
end
section
namespace Go.Proofs.YtdoaoaicdimbeaaGreatDoor
open Go.Ev Go
def cutV (p:Nat×Nat):V:= .agg [.int .i64 p.1, .int .i64 p.2]
inductive Pt
 |mk (kind:Nat) (head body:Nat×Nat) (kids:List Pt) (cuts:List (Nat×Nat)) (fin:Nat×Nat)
mutual
def partV:Pt→V
 | .mk k h b kids cuts e=> .agg [.int .i64 (k:Nat), .int .i64 (h.1:Nat), .int .i64 (h.2:Nat), .int .i64 (b.1:Nat), .int .i64 (b.2:Nat), .lst 36 false (tV kids), .lst 32 false (cuts.map cutV), .int .i64 (e.1:Nat), .int .i64 (e.2:Nat)]
def tV:List Pt→List V
 |[]=>[]
 |p::r=>partV p::tV r
end
theorem tW:∀l:List Pt,tV l=l.map partV
 |[]=>rfl
 |p::r=>by rw[tV,tW r];rfl
end Go.Proofs.YtdoaoaicdimbeaaGreatDoor
end
section
namespace Go.Proofs.YtdoaoaicdimbeaaGreatDoor
open Go.Shelf
def lays156_ren:Go.Shelf.Ren:=⟨fun|156=>85|165=>121|166=>27|169=>29|240=>54|241=>145|276=>94|277=>162|n=>n,fun|31=>53|9=>9|3=>3|4=>4|0=>0|20=>20|72=>72|76=>75|70=>70|37=>40|75=>74|127=>119|164=>171|5=>5|80=>78|n=>n,fun|n=>n⟩
theorem lays156:Go.Proofs.Lays.n156 Tryz.prog lays156_ren:={
 mixed:=by kernel_rfl
 f156:=Tryz.func85.trans (congrArg some (by kernel_rfl))
 f165:=Tryz.func121.trans (congrArg some (by kernel_rfl))
 f166:=Tryz.func27.trans (congrArg some (by kernel_rfl))
 f169:=Tryz.func29.trans (congrArg some (by kernel_rfl))
 f240:=Tryz.func54.trans (congrArg some (by kernel_rfl))
 f241:=Tryz.func145.trans (congrArg some (by kernel_rfl))
 f276:=Tryz.func94.trans (congrArg some (by kernel_rfl))
 f277:=Tryz.func162.trans (congrArg some (by kernel_rfl))
 t0:=Tryz.underlying0
 a0:=Tryz.isAgg0
 z0:=Tryz.sizeOf0
 v0:=Tryz.zeroValue0
 t3:=Tryz.underlying3
 a3:=Tryz.isAgg3
 z3:=Tryz.sizeOf3
 v3:=Tryz.zeroValue3
 t4:=Tryz.underlying4
 a4:=Tryz.isAgg4
 z4:=Tryz.sizeOf4
 v4:=Tryz.zeroValue4
 t9:=Tryz.underlying9
 a9:=Tryz.isAgg9
 z9:=Tryz.sizeOf9
 v9:=Tryz.zeroValue9
 t20:=Tryz.underlying20
 a20:=Tryz.isAgg20
 z20:=Tryz.sizeOf20
 v20:=Tryz.zeroValue20
 t31:=Tryz.underlying53
 a31:=Tryz.isAgg53
 z31:=Tryz.sizeOf53
 v31:=Tryz.zeroValue53
 t37:=Tryz.underlying40
 a37:=Tryz.isAgg40
 z37:=Tryz.sizeOf40
 v37:=Tryz.zeroValue40
 t70:=Tryz.underlying70
 a70:=Tryz.isAgg70
 z70:=Tryz.sizeOf70
 v70:=Tryz.zeroValue70
 t72:=Tryz.underlying72
 a72:=Tryz.isAgg72
 z72:=Tryz.sizeOf72
 v72:=Tryz.zeroValue72
 t75:=Tryz.underlying74
 a75:=Tryz.isAgg74
 z75:=Tryz.sizeOf74
 v75:=Tryz.zeroValue74
 t76:=Tryz.underlying75
 a76:=Tryz.isAgg75
 z76:=Tryz.sizeOf75
 v76:=Tryz.zeroValue75
 t127:=Tryz.underlying119
 a127:=Tryz.isAgg119
 z127:=Tryz.sizeOf119
 v127:=Tryz.zeroValue119
 t164:=Tryz.underlying171
 a164:=Tryz.isAgg171
 z164:=Tryz.sizeOf171
 v164:=Tryz.zeroValue171 }
theorem Builder_Extra_156:Builder.Extra Tryz.prog lays156_ren:={
 sizeBuilder:=by kernel_rfl
 liesBuilder:=by kernel_rfl
 t5:=Tryz.underlying5
 a5:=Tryz.isAgg5
 z5:=Tryz.sizeOf5
 v5:=Tryz.zeroValue5
 infoByte:=by kernel_rfl
 cellsByte:=by kernel_rfl
 sizeByte:=by kernel_rfl
 neB5:=by decide }
open Go.RowKit in
theorem strings_Join_none (a:Option Addr) (c:Nat) (sep:ByteArray) (w:World):
  Calls Tryz.prog 85 #[.slice a 0 c, .string sep] w fun e w' =>e= .returned (.string ⟨#[]⟩)∧w' =w:=Any.strings_Join_none lays156 Builder_Extra_156 a c sep w
open Go.RowKit in
theorem strings_Join (bk o c:Nat) (xs:List ByteArray) (sep:ByteArray) (w:World) (hcells:∀(j:Nat) x,xs[j]? =some x→w.cell? ⟨bk,o+j,none⟩=some (.string x)) (hbk:bk<w.heap.size) (hN:xs.length≤140737488355328) (hcap:xs.length≤c) (hlen:(Lib.join (xs.map (·.data.toList)) sep.data.toList).length≤140737488355328):
  Calls Tryz.prog 85 #[.slice (some ⟨bk,o,none⟩) xs.length c, .string sep] w fun e w' =>e= .returned (.string ⟨(Lib.join (xs.map (·.data.toList)) sep.data.toList).toArray⟩)∧Below w.heap.size w w' :=Any.strings_Join lays156 Builder_Extra_156 bk o c xs sep w hcells hbk hN hcap hlen
end Go.Proofs.YtdoaoaicdimbeaaGreatDoor
end
section
namespace Go.Proofs.YtdoaoaicdimbeaaGreatDoor
open Go.ChangeShapes Go.WideShapes Go.ChangeAt Go.RowKit Go.Ev
theorem own:ownKnob Tryz.prog.godebug=none:=by kernel_rfl
def yD:DataW Unit→List Value
 | .lit (.int k n)=>[.int k n]
 |_=>[]
def Hd:DataW Unit→List Value
 | .agg ps=>ps.flatMap yD
 |d=>yD d
def yE:DataW Unit→List Value
 | .agg ps=>ps.flatMap Hd
 |d=>yD d
def yF (cs:List Value):Obj→Obj
 | .cells _ t frozen=> .cells cs.toArray t frozen
 |o=>o
noncomputable def laidWorld (os:Os):World:=
 { World.holding Tryz.prog os ⟨#[],#[],[]⟩with
  heap:=((World.holding Tryz.prog os ⟨#[],#[],[]⟩).heap
   |>.modify 0 (yF (yE Rows.laid_letterbox_b64_letters))
   |>.modify 3 (yF (yE Rows.laid_unicode_utf8_acceptRanges))).modify 2 (yF (yE Rows.laid_unicode_utf8_first)) }
theorem iQ {c:Cfg} {f:FuncId} {F:Go.Ev.Fun}
  (h:∀args objs v objs',F args objs=some (v,objs')→objs=[]∧objs' =[]∧∀fn rsh,c.fn f=some fn→fJ c f fn=some rsh→jM rsh v=true∧
   ∀(w:World) (G:Gh) (cargs:List Value),(∀b,w.heap.size≤b→G b=0)→cargs.length=args.length→(∀(i:Nat) v x,args[i]? =some v→cargs[i]? =some x→Rep c w G [] v x)→
    Calls c.P f cargs.toArray w fun e w' =>∃u G',e= .returned u∧dV w G w' G'∧Rep c w' G' [] v u∧aG v u=[]):cE c f F:=by
 refine⟨fun args objs v objs' _ hF=>?_,fun fn rsh hfn hrsh args objs v objs' hF w G μ cargs hlen hinv=>?_⟩
 ·obtain⟨rfl,rfl,_⟩:=h args objs v objs' hF;rfl
 ·obtain⟨rfl,rfl,hh⟩:=h args objs v objs' hF
  obtain⟨h1,h2⟩:=hh fn rsh hfn hrsh
  have hμ:μ=[]:=List.eq_nil_of_length_eq_zero hinv.olen.symm
  subst hμ
  refine⟨h1,by unfold Cfg.osh;split<;>rfl,(h2 w G cargs hinv.none hlen hinv.rep).mono ?_⟩
  rintro e w' ⟨u,G',rfl,hx,hr,hl⟩
  refine⟨u,G',rfl,?_⟩
  have hsim0:Sim c (entry w G [] args cargs []) w G [] args cargs []:=
   ⟨hinv,⟨Nat.le_refl _,jF.refl w G,fun _ _ _=>⟨rfl,rfl⟩,rfl,rfl,rfl⟩,fun b _ h=>h,[],by simp[entry]⟩
  exact((hsim0.ext hx).push hr hl).firsts (fr:=[v]) (cfr:=[u]) rfl
def dB (b:UInt8):UInt8:=UInt8.ofNat (kM b.toNat).toNat
def Df:Go.Ev.Fun
 |[.str s],[]=>if s.length<4294967281 then some (.str (s.map dB),[])else none
 |_,_=>none
def JD:Go.Ev.Fun
 |[.str s, .str [b]],[]=>some (.int .i64 (Lib.indexByte s b),[])
 |_,_=>none
def rH (b:UInt8):Nat→List UInt8→List (List UInt8)
 |0,s=>[s]
 |k+1,s=>if Lib.indexByte s b= -1 then[s]else s.take (Lib.indexByte s b).toNat::rH b k (s.drop ((Lib.indexByte s b).toNat+1))
def yG:Go.Ev.Fun
 |[.str s, .str [b], .int k n],[]=>if k= .i64∧0<n∧n<1000∧s.length<4294967281 then some (.lst 9 false ((rH b (min n.toNat (s.length+1) - 1) s).map V.str),[])else none
 |_,_=>none
def lnV (x:Nat×Nat×Nat):V:= .agg [.int .i64 x.1, .int .i64 x.2.1, .int .i64 x.2.2]
def ofF:Go.Ev.Fun
 |[.lst 5 _ bs, .agg [.int .i64 fr, .int .i64 to]],[]=>if bs.all qN&&decide (bs.length<1099511627776)then some (.lst 134 false ((aU fr to (bytesOf bs)).map lnV),[])else none
 |_,_=>none
def JE:Go.Ev.Fun
 |[.str s, .int .u8 n],[]=>if 0≤n∧n<256 then some (.int .i64 (Lib.indexByte s (UInt8.ofNat n.toNat)),[])else none
 |_,_=>none
def yH:Go.Ev.Fun
 |[.lst 5 _ bs],[]=>if bs.all qN&&decide (bs.length<1099511627776)then some (.lst 5 false bs,[])else none
 |_,_=>none
def EE:Go.Ev.Fun
 |[.lst 5 _ bs, .agg [.int .i64 fr, .int .i64 to]],[]=>if bs.all qN&&decide (bs.length<1099511627776)then some (.int .i64 ((aU fr to (bytesOf bs)).length:Nat),[])else none
 |_,_=>none
def EF:Go.Ev.Fun
 |[.lst 9 _ xs, .str s],[]=>if xs.length≤140737488355328∧(Lib.join (xs.map V.getS) s).length≤140737488355328 then some (.str (Lib.join (xs.map V.getS) s),[])else none
 |_,_=>none
noncomputable def He (f:FuncId):Option Go.Ev.Fun:=
 if f=73 then some Df else if f=170 then some yG else if f=168 then some JD else
 if f=62 then some ofF else if f=89 then some JE else
 if f=75 then some yH else
 if f=85 then some EF else
 if f=48 then some EE else
 if f=54 then some checkF else if f=29 then some textF else none
noncomputable def hand (f:FuncId):Option ((FuncId→Go.Ev.Fun)→Go.Ev.Fun):=
 (He f).map fun h _=>h
def ro (f:FuncId):Bool:=[151,152].contains f
def pur (f:FuncId):Bool:=[3,4,5,6,7,8,9,10,11,12,13,14,15,16,17,18,19,20,21,22,23,24,25,26,28,30,32,33,34,35,36,37,38,39,40,41,43,44,45,46,47,48,49,50,51,52,53,55,56,58,62,63,64,65,66,69,70,71,73,74,75,76,77,78,79,80,81,82,83,84,85,87,88,89,91,92,93,95,96,97,98,99,100,104,105,106,107,108,111,112,113,114,115,116,117,118,119,120,122,124,125,126,127,128,133,134,137,141,142,146,147,148,149,150,153,155,156,157,158,159,162,163,164,165,166,168,169,170,171,172,173,174,175,176,177,178,179,180,181,182,183,199].contains f
def Pf (f:FuncId):Option (List RSh):=if f=27 then some [⟨false,[.int .i64]⟩,⟨false,[.nili]⟩]else none
def NM (t:TypeId):Bool:=t==72
def Pg (f:FuncId):Bool:=f==29
def Ph (t:TypeId):Bool:=t==91
def Hf (g:Nat):Option (IntKind×List Int):=
 if g=0 then some (.u8,[65,66,67,68,69,70,71,72,73,74,75,76,77,78,79,80,81,82,83,84,85,86,87,88,89,90,97,98,99,100,101,102,103,104,105,106,107,108,109,110,111,112,113,114,115,116,117,118,119,120,121,122,48,49,50,51,52,53,54,55,56,57,43,47])else
 none
noncomputable def cfg:Cfg:=fM hand (fun _ _=>false) (fun _=>false) ro pur Pf NM Pg Ph Hf
theorem Fa (f:FuncId) (x:Func) (h0:fnT f=some x) (h1:(match x.body with|some b=>jE cfg b|none=>true)=true):∀y,fnT f=some y→∀b,y.body=some b→jE cfg b=true:=by
 intro y hy b hb
 rw[h0]at hy;cases hy
 rw[hb]at h1;exact h1
theorem Hg:aZ cfg:=NL _ _ _ _ _ _ _ _ _ _ (by
 intro f x hf hx b hb
 have hf' :f∈[151,152]:=by simpa[ro]using hf
 simp only[List.mem_cons,List.not_mem_nil,or_false]at hf'
 rcases hf' with rfl|rfl
 ·exact Fa _ Tryz.f151 (by kernel_rfl) (by kernel_rfl) x hx b hb
 ·exact Fa _ Tryz.f152 (by kernel_rfl) (by kernel_rfl) x hx b hb)
theorem tX {c:Cfg} {w:World} {G:Gh} {args:List V} {cargs:List Value} (hr:∀(i:Nat) v x,args[i]? =some v→cargs[i]? =some x→Rep c w G [] v x) (hl:cargs.length=args.length) {i:Nat} {s:List UInt8}
  (h:args[i]? =some (.str s)):cargs[i]? =some (.string ⟨s.toArray⟩):=by
 have hi:=(List.getElem?_eq_some_iff.1 h).1
 have hx:=List.getElem?_eq_getElem (l:=cargs) (i:=i) (by omega)
 rw[hx,kC (hr i _ _ h hx) rfl]
theorem Hh {c:Cfg} {w:World} {G:Gh} {args:List V} {cargs:List Value} (hr:∀(i:Nat) v x,args[i]? =some v→cargs[i]? =some x→Rep c w G [] v x) (hl:cargs.length=args.length) {i:Nat} {k:IntKind} {n:Int}
  (h:args[i]? =some (.int k n)):cargs[i]? =some (.int k n):=by
 have hi:=(List.getElem?_eq_some_iff.1 h).1
 have hx:=List.getElem?_eq_getElem (l:=cargs) (i:=i) (by omega)
 rw[hx,cM (hr i _ _ h hx) rfl]
theorem JF:cE cfg 73 Df:=by
 refine iQ fun args objs v objs' hF=>?_
 unfold Df at hF
 split at hF
 ·rename_i s
  split at hF
  ·rename_i hs
   cases hF
   refine⟨rfl,rfl,fun fn rsh hfn hrsh=>?_⟩
   have h1:cfg.fn 73=some Tryz.f73:=by kernel_rfl
   have h2:fJ cfg 73 Tryz.f73=some [⟨false,[.str]⟩]:=by kernel_rfl
   rw[h1]at hfn;cases hfn
   rw[h2]at hrsh;cases hrsh
   refine⟨rfl,fun w G cargs hn hl hr=>?_⟩
   have e0:=tX hr hl (i:=0) rfl
   match cargs,hl,e0 with
   |[x],_,e0=>
    simp at e0;subst e0
    have:=LM ⟨s.toArray⟩ w (by simpa[ByteArray.size]using hs)
    refine this.mono ?_
    rintro e w' ⟨rfl,hf⟩
    refine⟨_,G,rfl,⟨by have:=hf.size;omega,fun b hb=>⟨hf.old b hb,rfl⟩,fun b hb=>hn b (by have:=hf.size;omega),hf.os,hf.out,hf.tape⟩,?_,rfl⟩
    exact .str _
  ·cases hF
 ·cases hF
theorem LP:cE cfg 168 JD:=by
 refine iQ fun args objs v objs' hF=>?_
 unfold JD at hF
 split at hF
 ·rename_i s b
  cases hF
  ·refine⟨rfl,rfl,fun fn rsh hfn hrsh=>?_⟩
   have h1:cfg.fn 168=some Tryz.f168:=by kernel_rfl
   have h2:fJ cfg 168 Tryz.f168=some [⟨false,[.int .i64]⟩]:=by kernel_rfl
   rw[h1]at hfn;cases hfn
   rw[h2]at hrsh;cases hrsh
   refine⟨rfl,fun w G cargs hn hl hr=>?_⟩
   have e0:=tX hr hl (i:=0) rfl
   have e1:=tX hr hl (i:=1) rfl
   match cargs,hl,e0,e1 with
   |[x,y],_,e0,e1=>
    simp at e0 e1;subst e0;subst e1
    refine(E7 ⟨s.toArray⟩ b w).mono ?_
    rintro e w' ⟨rfl,rfl⟩
    exact⟨_,G,rfl,⟨Nat.le_refl _,fun b hb=>⟨rfl,rfl⟩,hn,rfl,rfl,rfl⟩, .int _ _,rfl⟩
 ·cases hF
theorem yI (b:UInt8):∀(k:Nat) (s:List UInt8),Lib.splitK [b] 0 k s=rH b k s
 |0,s=>rfl
 |k+1,s=>by
  simp only[Lib.splitK,rH,rG,yI b k,Nat.add_zero,List.length_singleton]
  by_cases h:Lib.indexByte s b= -1
  ·simp[h]
  ·simp[h]
theorem split_ok:cE cfg 170 yG:=by
 refine iQ fun args objs v objs' hF=>?_
 unfold yG at hF
 split at hF
 ·rename_i s b k n
  split at hF
  ·rename_i hk
   obtain⟨rfl,hn0,hn1,hs⟩:=hk
   cases hF
   refine⟨rfl,rfl,fun fn rsh hfn hrsh=>?_⟩
   have h1:cfg.fn 170=some Tryz.f170:=by kernel_rfl
   have h2:fJ cfg 170 Tryz.f170=some [⟨false,[.lst 9 false]⟩]:=by kernel_rfl
   rw[h1]at hfn;cases hfn
   rw[h2]at hrsh;cases hrsh
   refine⟨rfl,fun w G cargs hn hl hr=>?_⟩
   have e0:=tX hr hl (i:=0) rfl
   have e1:=tX hr hl (i:=1) rfl
   have e2:=Hh hr hl (i:=2) rfl
   match cargs,hl,e0,e1,e2 with
   |[x,y,z],_,e0,e1,e2=>
    simp at e0 e1 e2;subst e0;subst e1;subst e2
    have hsz:(⟨s.toArray⟩:ByteArray).size=s.length:=by simp[ByteArray.size]
    generalize hN:min n.toNat (s.length+1)=N
    have:=G6 ⟨s.toArray⟩ b n N w (by rw[hsz];exact hs) hn0 (by omega) (by rw[hsz];omega)
    refine this.mono ?_
    rintro e w' ⟨rfl,rfl⟩
    generalize hps:Lib.splitB ⟨#[b]⟩ 0 (N - 1) ⟨s.toArray⟩=ps
    have hdata:ps.map (fun p=>p.data.toList)=rH b (N - 1) s:=by
     rw[←hps,Lib.splitB_data,←yI]
    have hle:ps.length≤N:=by
     rw[←hps]
     have:=Lib.splitB_length_le ⟨#[b]⟩ 0 (N - 1) ⟨s.toArray⟩
     omega
    have hsz9:aF cfg 9=1:=by kernel_rfl
    have hx:dV w G (w.alloc (.cells (Lib.cellsOf ps N) 9)) (fun k=>if k=w.heap.size then ps.length else G k):=by
     refine⟨by simp,fun b hb=>⟨?_,by simp[Nat.ne_of_lt hb]⟩,fun b hb=>?_,rfl,rfl,rfl⟩
     ·show(w.heap.push _)[b]? =_
      rw[Array.getElem?_push_lt hb,Array.getElem?_eq_getElem hb]
     ·have hb' :w.heap.size+1≤b:=by simpa using hb
      have:b≠w.heap.size:=by omega
      simp[this,hn b (by omega)]
    refine⟨_,_,rfl,hx,?_,rfl⟩
    have hvs:(rH b (N - 1) s).map V.str=ps.map fun p=>V.str p.data.toList:=by rw[←hdata,List.map_map];rfl
    rw[hvs]
    have hlen:ps.length=(ps.map fun p=>V.str p.data.toList).length:=by simp
    have hfl:flat (ps.map Value.string)=ps.map Value.string:=by
     clear hvs hlen hx hle hdata hps
     induction ps with
     |nil=>rfl
     |cons p ps ih=>simp only[flat,List.map_cons,List.flatMap_cons,Value.cells]at ih ⊢;rw[ih];rfl
    rw[hlen]
    refine .lst 9 false _ _ N (ps.map Value.string) (by simp) (fun i v x hv hx=>?_) (fun v hv=>?_) (fun x hx=>?_) (by rw[hsz9];omega) (by simpa using hle) ⟨fun h=>(by cases h),fun p hp=>(by cases hp;simp)⟩ (fun p hp _=>?_)
    ·obtain⟨p,h1,rfl⟩:=bM hv
     obtain⟨p',h2,rfl⟩:=bM hx
     rw[h1]at h2;cases h2
     exact .str _
    ·obtain⟨p,_,rfl⟩:=List.mem_map.1 hv
     have h9:cfg.ty 9=tyT 9:=rfl
     have:∀q:List UInt8,bZ cfg 9 (.str q)=true:=by intro q;kernel_rfl
     exact this _
    ·obtain⟨p,_,rfl⟩:=List.mem_map.1 hx
     rw[hsz9];rfl
    ·cases hp
     refine⟨rfl,fun j x hj=>?_⟩
     rw[hfl]at hj
     have hjl:j<ps.length:=by have:=(List.getElem?_eq_some_iff.1 hj).1;simpa using this
     refine⟨?_,by simp;omega⟩
     have hnew:(w.alloc (.cells (Lib.cellsOf ps N) 9)).heap[w.heap.size]? =some (.cells (Lib.cellsOf ps N) 9):=by show(w.heap.push _)[w.heap.size]? =_;simp
     simp only[World.cell?,hnew,Nat.zero_add]
     have:(Lib.cellsOf ps N)[j]? =some x:=by
      unfold Lib.cellsOf
      rw[List.getElem?_toArray,List.getElem?_append_left (by simpa using hjl)]
      exact hj
     simpa using this
  ·cases hF
 ·cases hF
theorem LQ:cE cfg 89 JE:=by
 refine iQ fun args objs v objs' hF=>?_
 unfold JE at hF
 split at hF
 ·rename_i s n
  split at hF
  ·rename_i hn'
   cases hF
   refine⟨rfl,rfl,fun fn rsh hfn hrsh=>?_⟩
   have h1:cfg.fn 89=some Tryz.f89:=by kernel_rfl
   have h2:fJ cfg 89 Tryz.f89=some [⟨false,[.int .i64]⟩]:=by kernel_rfl
   rw[h1]at hfn;cases hfn
   rw[h2]at hrsh;cases hrsh
   refine⟨rfl,fun w G cargs hn hl hr=>?_⟩
   have e0:=tX hr hl (i:=0) rfl
   have e1:=Hh hr hl (i:=1) rfl
   match cargs,hl,e0,e1 with
   |[x,y],_,e0,e1=>
    simp at e0 e1;subst e0;subst e1
    refine(BS ⟨s.toArray⟩ n w).mono ?_
    rintro e w' ⟨rfl,rfl⟩
    exact⟨_,G,rfl,⟨Nat.le_refl _,fun b hb=>⟨rfl,rfl⟩,hn,rfl,rfl,rfl⟩, .int _ _,rfl⟩
  ·cases hF
 ·cases hF
theorem NN:cE cfg 62 ofF:=by
 refine iQ fun args objs v objs' hF=>?_
 unfold ofF at hF
 split at hF
 ·rename_i tp bs fr to
  split at hF
  ·rename_i hb
   simp only[Bool.and_eq_true,decide_eq_true_eq]at hb
   obtain⟨hby,hlen⟩:=hb
   cases hF
   refine⟨rfl,rfl,fun fn rsh hfn hrsh=>?_⟩
   have h1:cfg.fn 62=some Tryz.f62:=by kernel_rfl
   have h2:fJ cfg 62 Tryz.f62=some [⟨false,[.lst 134 false]⟩]:=by kernel_rfl
   rw[h1]at hfn;cases hfn
   rw[h2]at hrsh;cases hrsh
   refine⟨rfl,fun w G cargs hn hl hr=>?_⟩
   match cargs,hl with
   |[x,y],_=>
    obtain⟨a,cap,lo,rfl,hlo,hrr,hf,hs,hz,hcap,ha,hrow⟩:=mL (hr 0 _ x rfl rfl) rfl
    have hy:y= .agg #[.int .i64 fr, .int .i64 to]:=by
     have:=hr 1 _ y rfl rfl
     cases this with
     |agg _ l hl hs hr2=>
      match l,hl with
      |[p,q],_=>
       have e1:=cM (hr2 0 _ p rfl rfl) rfl
       have e2:=cM (hr2 1 _ q rfl rfl) rfl
       subst e1;subst e2;rfl
    subst hy
    have hxb:=lX hby
    have hbl:(bytesOf bs).length=bs.length:=by simp[bytesOf]
    have hlo' :lo=(bytesOf bs).map (fun b=>Value.int .u8 b.toNat):=by
     apply List.ext_getElem?
     intro i
     by_cases hi:i<bs.length
     ·have e1:bs[i]? =(ofBytes (bytesOf bs))[i]? :=by rw[hxb]
      simp only[ofBytes,List.getElem?_map]at e1
      rw[List.getElem?_eq_getElem (by omega:i<(bytesOf bs).length)]at e1
      have:=cM (hrr i _ lo[i] e1 (List.getElem?_eq_getElem (by omega))) rfl
      rw[List.getElem?_eq_getElem (by omega:i<lo.length),this,List.getElem?_map,List.getElem?_eq_getElem (by omega:i<(bytesOf bs).length)]
      rfl
     ·rw[List.getElem?_eq_none (by omega),List.getElem?_eq_none (by simp;omega)]
    have hcall:=Pe a cap (bytesOf bs) fr to w (by omega) ha.1 (by omega) (fun p hp hne=>by
     obtain⟨g1,g2⟩:=hrow p hp (fun e=>hne (by rw[e];rfl))
     refine⟨g1,fun j x hj=>?_⟩
     exact(g2 j (.int .u8 x.toNat) (by rw[hlo',iG,List.getElem?_map,hj];rfl)).1)
    rw[hbl]at hcall
    refine hcall.mono ?_
    rintro e w' ⟨v,rfl,hown,hbel⟩
    have hsz:aF cfg 134=3:=by kernel_rfl
    have hfit:∀p q r:Int,bZ cfg 134 (.agg [.int .i64 p, .int .i64 q, .int .i64 r])=true:=by intro p q r;kernel_rfl
    have hmk:∀(w' :World) (G' :Gh) (xs:List (Nat×Nat×Nat)) (a' :Option Addr) (cap' :Nat),xs.length≤cap'→((a' =none→cap' =0)∧∀p,a' =some p→p.block<w'.heap.size)→
      (∀p,a' =some p→xs≠[]→p.spot=none∧qV w' G' p.block p.off (fP xs))→Rep cfg w' G' [] (.lst 134 false (xs.map lnV)) (.slice a' xs.length cap'):=by
     intro w' G' xs a' cap' k1 k2 k3
     have hfl:flat (xs.map iP)=fP xs:=by
      clear k1 k2 k3
      induction xs with
      |nil=>rfl
      |cons x xs ih=>simp only[flat,List.map_cons,List.flatMap_cons,fP]at ih ⊢;rw[ih];rfl
     have hlen' :xs.length=(xs.map lnV).length:=by simp
     rw[hlen']
     refine .lst 134 false _ a' cap' (xs.map iP) (by simp) (fun i v x hv hx=>?_) (fun v hv=>?_) (fun x hx=>?_) (by rw[hsz];omega) (by simpa using k1) k2 (fun p hp hne=>?_)
     ·obtain⟨p,q1,rfl⟩:=bM hv
      obtain⟨p',q2,rfl⟩:=bM hx
      rw[q1]at q2;cases q2
      refine .agg _ [.int .i64 p.1, .int .i64 p.2.1, .int .i64 p.2.2] rfl (fun x hx=>?_) (fun i v x hv hx=>?_)
      ·simp at hx;rcases hx with rfl|rfl|rfl<;>rfl
      ·match i,hv,hx with
       |0,hv,hx=>simp at hv hx;subst hv;subst hx;exact .int _ _
       |1,hv,hx=>simp at hv hx;subst hv;subst hx;exact .int _ _
       |2,hv,hx=>simp at hv hx;subst hv;subst hx;exact .int _ _
     ·obtain⟨p,_,rfl⟩:=List.mem_map.1 hv
      exact hfit _ _ _
     ·obtain⟨p,_,rfl⟩:=List.mem_map.1 hx
      rw[hsz];rfl
     ·rw[hfl]
      exact k3 p hp (fun e=>hne (by rw[e];rfl))
    rcases hown.2 with⟨rfl,h0⟩|⟨g,cap',cur,rfl,hbg,hgb,hnc,hcm,hcs,htake⟩
    ·have hx0:=List.eq_nil_of_length_eq_zero h0
     refine⟨_,G,rfl,⟨hbel.size,fun b hb=>⟨hbel.block b hb,rfl⟩,fun b hb=>hn b (Nat.le_trans hbel.size hb),hbel.os,hbel.output,hbel.tape⟩,?_,rfl⟩
     have:=hmk w' G (aU fr to (bytesOf bs)) none 0 (by omega) ⟨fun _=>rfl,fun p hp=>by cases hp⟩ (fun p hp=>by cases hp)
     rw[h0]at this
     exact this
    ·have hglt:g<w'.heap.size:=dI hgb
     refine⟨_,fun k=>if k=g then(aU fr to (bytesOf bs)).length*3 else G k,rfl,⟨hbel.size,fun b hb=>⟨hbel.block b hb,?_⟩,fun b hb=>?_,hbel.os,hbel.output,hbel.tape⟩,?_,rfl⟩
     ·have:b≠g:=by omega
      simp[this]
     ·have:b≠g:=by omega
      simp[this,hn b (Nat.le_trans hbel.size hb)]
     ·refine hmk w' _ _ _ cap' hnc ⟨fun h=>(by cases h),fun p hp=>(by cases hp;exact hglt)⟩ (fun p hp _=>?_)
      cases hp
      refine⟨rfl,fun j x hj=>⟨?_,?_⟩⟩
      ·have:=hown.cells (g:=g) rfl j x hj
       rw[Addr.add_lit]at this
       exact this
      ·have hj' :=(List.getElem?_eq_some_iff.1 hj).1
       have:=hown.1
       simp only[if_true]
       omega
  ·cases hF
 ·cases hF
theorem Hi:cE cfg 75 yH:=by
 refine iQ fun args objs v objs' hF=>?_
 unfold yH at hF
 split at hF
 ·rename_i tp bs
  split at hF
  ·rename_i hb
   simp only[Bool.and_eq_true,decide_eq_true_eq]at hb
   obtain⟨hby,hlen⟩:=hb
   cases hF
   refine⟨rfl,rfl,fun fn rsh hfn hrsh=>?_⟩
   have h1:cfg.fn 75=some Tryz.f75:=by kernel_rfl
   have h2:fJ cfg 75 Tryz.f75=some [⟨false,[.lst 5 false]⟩]:=by kernel_rfl
   rw[h1]at hfn;cases hfn
   rw[h2]at hrsh;cases hrsh
   refine⟨rfl,fun w G cargs hn hl hr=>?_⟩
   match cargs,hl with
   |[x],_=>
    obtain⟨a,cap,lo,rfl,hlo,hrr,hf,hs,hz,hcap,ha,hrow⟩:=mL (hr 0 _ x rfl rfl) rfl
    have hxb:=lX hby
    have hbl:(bytesOf bs).length=bs.length:=by simp[bytesOf]
    have hlo' :lo=(bytesOf bs).map (fun b=>Value.int .u8 b.toNat):=by
     apply List.ext_getElem?
     intro i
     by_cases hi:i<bs.length
     ·have e1:bs[i]? =(ofBytes (bytesOf bs))[i]? :=by rw[hxb]
      simp only[ofBytes,List.getElem?_map]at e1
      rw[List.getElem?_eq_getElem (by omega:i<(bytesOf bs).length)]at e1
      have:=cM (hrr i _ lo[i] e1 (List.getElem?_eq_getElem (by omega))) rfl
      rw[List.getElem?_eq_getElem (by omega:i<lo.length),this,List.getElem?_map,List.getElem?_eq_getElem (by omega:i<(bytesOf bs).length)]
      rfl
     ·rw[List.getElem?_eq_none (by omega),List.getElem?_eq_none (by simp;omega)]
    have hfl:flat lo=lo:=by rw[hlo',iG]
    have hsz:aF cfg 5=1:=by kernel_rfl
    have hmk:∀(w' :World) (G' :Gh) (a' :Option Addr) (cap' :Nat),bs.length≤cap'→((a' =none→cap' =0)∧∀p,a' =some p→p.block<w'.heap.size)→
      (∀p,a' =some p→bs≠[]→p.spot=none∧qV w' G' p.block p.off lo)→Rep cfg w' G' [] (.lst 5 false bs) (.slice a' bs.length cap'):=by
     intro w' G' a' cap' k1 k2 k3
     refine .lst 5 false bs a' cap' lo hlo (fun i v x hv hx=>?_) hf hs hz k1 k2 (fun p hp hne=>?_)
     ·rw[←hxb]at hv
      rw[hlo']at hx
      obtain⟨p,q1,rfl⟩:=bM hv
      obtain⟨p',q2,rfl⟩:=bM hx
      rw[q1]at q2;cases q2
      exact .int _ _
     ·rw[hfl];exact k3 p hp hne
    cases a with
    |none=>
     have hcap0:=ha.1 rfl
     have hb0:bs=[]:=List.eq_nil_of_length_eq_zero (by omega)
     refine(clone_nil bs.length cap w).mono ?_
     rintro e w' ⟨rfl,rfl⟩
     refine⟨_,G,rfl,⟨Nat.le_refl _,fun b hb=>⟨rfl,rfl⟩,hn,rfl,rfl,rfl⟩,?_,rfl⟩
     have:=hmk w' G none 0 (by rw[hb0];simp) ⟨fun _=>rfl,fun p hp=>by cases hp⟩ (fun p hp=>by cases hp)
     have hz0:bs.length=0:=by rw[hb0];rfl
     rw[hz0]at this
     exact this
    |some p=>
     have hcell:∀j u,lo[j]? =some u→w.cell? (p.add j)=some u:=fun j u hj=>by
      have hjl:=(List.getElem?_eq_some_iff.1 hj).1
      have hbne:bs≠[]:=fun e=>by
       have h0:lo.length=0:=by rw[hlo,e];rfl
       omega
      obtain⟨g1,g2⟩:=hrow p rfl hbne
      obtain⟨pb,po,ps⟩:=p
      simp only at g1
      subst g1
      rw[Addr.add_lit]
      exact(g2 j u (by rw[hfl];exact hj)).1
     have hone:∀u∈lo,u.oneCell' =true:=fun u hu=>by
      rw[hlo']at hu
      obtain⟨c,_,rfl⟩:=List.mem_map.1 hu
      rfl
     refine(JC p bs.length cap lo w hlo (by unfold maxLen;omega) (by omega) hcell hone).mono ?_
     rintro e w' ⟨v,rfl,hown,hbel⟩
     rcases hown.2 with⟨rfl,h0⟩|⟨g,cap',cur,rfl,hbg,hgb,hnc,hcm,hcs,htake⟩
     ·refine⟨_,G,rfl,⟨hbel.size,fun b hb=>⟨hbel.block b hb,rfl⟩,fun b hb=>hn b (Nat.le_trans hbel.size hb),hbel.os,hbel.output,hbel.tape⟩,?_,rfl⟩
      have:=hmk w' G none 0 (by omega) ⟨fun _=>rfl,fun p hp=>by cases hp⟩ (fun p hp=>by cases hp)
      rw[h0]at this
      exact this
     ·have hglt:g<w'.heap.size:=dI hgb
      refine⟨_,fun k=>if k=g then bs.length*1 else G k,rfl,⟨hbel.size,fun b hb=>⟨hbel.block b hb,?_⟩,fun b hb=>?_,hbel.os,hbel.output,hbel.tape⟩,?_,rfl⟩
      ·have:b≠g:=by omega
       simp[this]
      ·have:b≠g:=by omega
       simp[this,hn b (Nat.le_trans hbel.size hb)]
      ·refine hmk w' _ _ cap' hnc ⟨fun h=>(by cases h),fun p hp=>(by cases hp;exact hglt)⟩ (fun p hp _=>?_)
       cases hp
       refine⟨rfl,fun j x hj=>⟨?_,?_⟩⟩
       ·have:=hown.cells (g:=g) rfl j x hj
        rw[Addr.add_lit]at this
        exact this
       ·have hj' :=(List.getElem?_eq_some_iff.1 hj).1
        have:=hown.1
        simp only[if_true]
        omega
  ·cases hF
 ·cases hF
theorem JG:cE cfg 85 EF:=by
 refine iQ fun args objs v objs' hF=>?_
 unfold EF at hF
 split at hF
 ·rename_i t xs s
  split at hF
  ·rename_i hb
   cases hF
   refine⟨rfl,rfl,fun fn rsh hfn hrsh=>?_⟩
   have h1:cfg.fn 85=some Tryz.f85:=by kernel_rfl
   have h2:fJ cfg 85 Tryz.f85=some [⟨false,[.str]⟩]:=by kernel_rfl
   rw[h1]at hfn;cases hfn
   rw[h2]at hrsh;cases hrsh
   refine⟨rfl,fun w G cargs hn hl hr=>?_⟩
   match cargs,hl with
   |[x,y],_=>
    have hx:=hr 0 _ x rfl rfl
    have hy:=kC (hr 1 _ y rfl rfl) rfl
    subst hy
    cases hx with
    |lst e t xs a cap l hl hrr hf hs hz hc ha hrow=>
     have hsz:aF cfg 9=1:=by kernel_rfl
     have hstr:∀v∈xs,v= .str v.getS:=fun v hv=>by
      have h9:cfg.ty 9=some ⟨Tryz.t9.desc,1,16,false,[CSh.str],[V.str []],true⟩:=by kernel_rfl
      have:=hf v hv
      simp only[bZ,h9,RSh.fits,Bool.false_eq_true,if_false,cH,Bool.and_true]at this
      cases v<;>simp[CSh.fits]at this
      rfl
     have hcell:∀(j:Nat) x,(xs.map fun v=>(⟨v.getS.toArray⟩:ByteArray))[j]? =some x→l[j]? =some (.string x):=fun j x hj=>by
      obtain⟨v,hv,rfl⟩:=bM hj
      have hlt:=(List.getElem?_eq_some_iff.1 hv).1
      have hlj:=List.getElem?_eq_getElem (l:=l) (i:=j) (by omega)
      have:=hrr j v _ hv hlj
      rw[hstr v (List.mem_of_getElem? hv)]at this
      rw[hlj,kC this rfl]
     have hfl:flat l=l:=by
      have:∀m:List Value,(∀x∈m,∃s:ByteArray,x= .string s)→flat m=m:=by
       intro m
       induction m with
       |nil=>intro _;rfl
       |cons x m ih=>
        intro h
        obtain⟨s,rfl⟩:=h x (by simp)
        have:=ih fun y hy=>h y (by simp[hy])
        simp only[flat]at this ⊢
        rw[List.flatMap_cons,this]
        rfl
      refine this l fun x hx=>?_
      obtain⟨j,hj⟩:=List.getElem?_of_mem hx
      have hlt:=(List.getElem?_eq_some_iff.1 hj).1
      have:=hcell j _ (by rw[List.getElem?_map,List.getElem?_eq_getElem (by omega:j<xs.length)];rfl)
      rw[hj]at this
      exact⟨_,Option.some.inj this⟩
     have hmap:(xs.map fun v=>(⟨v.getS.toArray⟩:ByteArray)).map (·.data.toList)=xs.map V.getS:=by rw[List.map_map];rfl
     cases a with
     |none=>
      have hcap0:=ha.1 rfl
      have hx0:xs=[]:=List.eq_nil_of_length_eq_zero (by omega)
      subst hx0
      refine(strings_Join_none none cap ⟨s.toArray⟩ w).mono ?_
      rintro e w' ⟨rfl,rfl⟩
      exact⟨_,G,rfl,⟨Nat.le_refl _,fun b hb=>⟨rfl,rfl⟩,hn,rfl,rfl,rfl⟩, .str _,rfl⟩
     |some p=>
      by_cases hx0:xs=[]
      ·subst hx0
       refine(strings_Join_none (some p) cap ⟨s.toArray⟩ w).mono ?_
       rintro e w' ⟨rfl,rfl⟩
       exact⟨_,G,rfl,⟨Nat.le_refl _,fun b hb=>⟨rfl,rfl⟩,hn,rfl,rfl,rfl⟩, .str _,rfl⟩
      ·obtain⟨g1,g2⟩:=hrow p rfl hx0
       have hpb:=ha.2 p rfl
       obtain⟨pb,po,ps⟩:=p
       simp only at g1 hpb
       subst g1
       have:=strings_Join pb po cap (xs.map fun v=>(⟨v.getS.toArray⟩:ByteArray)) ⟨s.toArray⟩ w (fun j x hj=>(g2 j _ (by rw[hfl];exact hcell j x hj)).1) hpb (by rw[List.length_map];exact hb.1) (by rw[List.length_map];exact hc) (by rw[hmap];exact hb.2)
       rw[List.length_map,hmap]at this
       refine this.mono ?_
       rintro e w' ⟨rfl,hbel⟩
       exact⟨_,G,rfl,⟨hbel.size,fun b hb=>⟨hbel.block b hb,rfl⟩,fun b hb=>hn b (Nat.le_trans hbel.size hb),hbel.os,hbel.output,hbel.tape⟩, .str _,rfl⟩
  ·cases hF
 ·cases hF
theorem Hj:cE cfg 48 EE:=by
 refine iQ fun args objs v objs' hF=>?_
 unfold EE at hF
 split at hF
 ·rename_i tp bs fr to
  split at hF
  ·rename_i hb
   simp only[Bool.and_eq_true,decide_eq_true_eq]at hb
   obtain⟨hby,hlen⟩:=hb
   cases hF
   refine⟨rfl,rfl,fun fn rsh hfn hrsh=>?_⟩
   have h1:cfg.fn 48=some Tryz.f48:=by kernel_rfl
   have h2:fJ cfg 48 Tryz.f48=some [⟨false,[.int .i64]⟩]:=by kernel_rfl
   rw[h1]at hfn;cases hfn
   rw[h2]at hrsh;cases hrsh
   refine⟨rfl,fun w G cargs hn hl hr=>?_⟩
   match cargs,hl with
   |[x,y],_=>
    obtain⟨a,cap,lo,rfl,hlo,hrr,hf,hs,hz,hcap,ha,hrow⟩:=mL (hr 0 _ x rfl rfl) rfl
    have hy:y= .agg #[.int .i64 fr, .int .i64 to]:=by
     have:=hr 1 _ y rfl rfl
     cases this with
     |agg _ l hl hs hr2=>
      match l,hl with
      |[p,q],_=>
       have e1:=cM (hr2 0 _ p rfl rfl) rfl
       have e2:=cM (hr2 1 _ q rfl rfl) rfl
       subst e1;subst e2;rfl
    subst hy
    have hxb:=lX hby
    have hbl:(bytesOf bs).length=bs.length:=by simp[bytesOf]
    have hlo' :lo=(bytesOf bs).map (fun b=>Value.int .u8 b.toNat):=by
     apply List.ext_getElem?
     intro i
     by_cases hi:i<bs.length
     ·have e1:bs[i]? =(ofBytes (bytesOf bs))[i]? :=by rw[hxb]
      simp only[ofBytes,List.getElem?_map]at e1
      rw[List.getElem?_eq_getElem (by omega:i<(bytesOf bs).length)]at e1
      have:=cM (hrr i _ lo[i] e1 (List.getElem?_eq_getElem (by omega))) rfl
      rw[List.getElem?_eq_getElem (by omega:i<lo.length),this,List.getElem?_map,List.getElem?_eq_getElem (by omega:i<(bytesOf bs).length)]
      rfl
     ·rw[List.getElem?_eq_none (by omega),List.getElem?_eq_none (by simp;omega)]
    have hcall:=Ha a cap (bytesOf bs) fr to w (by omega) ha.1 (by omega) (fun p hp hne=>by
     obtain⟨g1,g2⟩:=hrow p hp (fun e=>hne (by rw[e];rfl))
     refine⟨g1,fun j x hj=>?_⟩
     exact(g2 j (.int .u8 x.toNat) (by rw[hlo',iG,List.getElem?_map,hj];rfl)).1)
    rw[hbl]at hcall
    refine(callsIn_wide.1 hcall).mono ?_
    rintro e w' ⟨rfl,hbel⟩
    exact⟨_,G,rfl,⟨hbel.size,fun b hb=>⟨hbel.block b hb,rfl⟩,fun b hb=>hn b (Nat.le_trans hbel.size hb),hbel.os,hbel.output,hbel.tape⟩, .int _ _,rfl⟩
  ·cases hF
 ·cases hF
theorem Hk:∀f h,He f=some h→cE cfg f h:=by
 intro f h hf
 unfold He at hf
 split at hf
 ·rename_i e;subst e;cases hf;exact JF
 split at hf
 ·rename_i e;subst e;cases hf;exact split_ok
 split at hf
 ·rename_i e;subst e;cases hf;exact LP
 split at hf
 ·rename_i e;subst e;cases hf;exact NN
 split at hf
 ·rename_i e;subst e;cases hf;exact LQ
 split at hf
 ·rename_i e;subst e;cases hf;exact Hi
 split at hf
 ·rename_i e;subst e;cases hf;exact JG
 split at hf
 ·rename_i e;subst e;cases hf;exact Hj
 split at hf
 ·rename_i e;subst e;cases hf
  refine Hb rfl (fun t ht=>by simpa[cfg,fM,NM]using ht) rfl (fun fn rsh hfn hrsh=>?_)
  have h1:cfg.fn 54=some Tryz.f54:=by kernel_rfl
  have h2:fJ cfg 54 Tryz.f54=some []:=by kernel_rfl
  rw[h1]at hfn;cases hfn
  rw[h2]at hrsh;cases hrsh
  rfl
 split at hf
 ·rename_i e;subst e;cases hf
  refine JB Hg rfl rfl (by kernel_rfl) (by kernel_rfl) (fun fn rsh s hfn hrsh=>?_)
  have h1:cfg.fn 29=some Tryz.f29:=by kernel_rfl
  have h2:fJ cfg 29 Tryz.f29=some [⟨false,[.str]⟩]:=by kernel_rfl
  rw[h1]at hfn;cases hfn
  rw[h2]at hrsh;cases hrsh
  rfl
 cases hf
theorem JH:∀f h,cfg.hand f=some h→∀call,(∀g,cE cfg g (call g))→cE cfg f (h call):=by
 intro f h hf call hcall
 have hf:hand f=some h:=hf
 unfold hand at hf
 obtain⟨h0,h1,rfl⟩:=Option.map_eq_some_iff.1 hf
 exact Hk f h0 h1
end Go.Proofs.YtdoaoaicdimbeaaGreatDoor
end
section
namespace Go.Proofs.YtdoaoaicdimbeaaGreatDoor
open Go.Ev Go
abbrev Bs:=List UInt8
def Ret (f:FuncId) (args:List V) (objs:List Ob) (r:V×List Ob):Prop:=∃K,∀k,K≤k→aA cfg k f args objs=some r
def Evt {α:Type} (g:Nat→Nat→Option α) (r:α):Prop:=∃K,∀k n,K≤k→K≤n→g k n=some r
theorem aS {f:FuncId} {args:List V} {objs:List Ob} {r:V×List Ob} {g:Nat→Nat→Option (V×List Ob)} (hc:∀k,aA cfg (k+1) f args objs=g k k) (h:Evt g r):Ret f args objs r:=by
 obtain⟨K,h⟩:=h
 refine⟨K+1,fun k hk=>?_⟩
 obtain⟨j,rfl⟩:∃j,k=j+1:=⟨k - 1,by omega⟩
 rw[hc];exact h j j (by omega) (by omega)
theorem aV {α:Type} {g g' :Nat→Nat→Option α} {r:α} (hg:∀k n,g k (n+1)=g' k n) (h:Evt g' r):Evt g r:=by
 obtain⟨K,h⟩:=h
 refine⟨K+1,fun k n hk hn=>?_⟩
 obtain⟨j,rfl⟩:∃j,n=j+1:=⟨n - 1,by omega⟩
 rw[hg];exact h k j (by omega) (by omega)
theorem aC {α:Type} (r:α):Evt (fun _ _=>some r) r:=⟨0,fun _ _ _ _=>rfl⟩
theorem aD {α:Type} {f:FuncId} {args:List V} {objs:List Ob} {p:V×List Ob} {F:Nat→Nat→V×List Ob→Option α} {r:α} (h:Ret f args objs p) (h2:Evt (fun k n=>F k n p) r):
  Evt (fun k n=>Option.bind (aA cfg k f args objs) (F k n)) r:=by
 obtain⟨K,h⟩:=h
 obtain⟨K2,h2⟩:=h2
 refine⟨K+K2,fun k n hk hn=>?_⟩
 show Option.bind (aA cfg k f args objs) (F k n)=some r
 rw[h k (by omega)]
 exact h2 k n (by omega) (by omega)
theorem iR {f:FuncId} {args:List V} {objs:List Ob} {r:V×List Ob} {h:Go.Ev.Fun} (hh:cfg.hand f=some fun _=>h) (e:h args objs=some r):Ret f args objs r:=by
 refine⟨1,fun k hk=>?_⟩
 obtain⟨j,rfl⟩:∃j,k=j+1:=⟨k - 1,by omega⟩
 simp only[aA,hh];exact e
noncomputable def FIN (f:FuncId) (fn:Func) (objs:List Ob):St→Option (V×List Ob):=Co cfg fn (finish cfg fn f (List.map OSh.of objs))
noncomputable def RM (f:FuncId) (fn:Func) (objs:List Ob) (call:FuncId→Go.Ev.Fun) (icall:aQ (V×List Ob)) (again:List It→St→Option (V×List Ob)) (its:List It) (st:St):Option (V×List Ob):=
 bU cfg call icall (slotsOf fn.results.toList) (List.length objs) again (FIN f fn objs) depth its st
noncomputable def RN (f:FuncId) (fn:Func) (objs:List Ob) (call:FuncId→Go.Ev.Fun) (icall:aQ (V×List Ob)) (n:Nat) (its:List It) (st:St):Option (V×List Ob):=
 Go.Ev.runN cfg call icall (slotsOf fn.results.toList) (List.length objs) (FIN f fn objs) n its st
noncomputable def GO (f:FuncId) (fn:Func) (args:List V) (objs:List Ob) (call:FuncId→Go.Ev.Fun) (icall:aQ (V×List Ob)) (again:List It→St→Option (V×List Ob)):Option (V×List Ob):=
 Ea args fn.ntmps fun env=>RM f fn objs call icall again [.code (codeOf fn)] ⟨env,objs⟩
theorem bX {R:Type} (x:Option R):chk true x=x:=rfl
theorem aI {R:Type} {p:Prop} [Decidable p] (h:p) (x:Option R):chk (decide p) x=x:=by simp[chk,h]
theorem cJ {R:Type} {b:Bool} (h:b=true) (x:Option R):chk b x=x:=by subst h;rfl
theorem bS {α β:Type} (a:α) (f:α→Option β):Option.bind (some a) f=f a:=rfl
theorem wrap64 {n:Int} (h1: -9223372036854775808≤n) (h2:n<9223372036854775808):IntKind.wrap .i64 n=n:=by
 rw[IntKind.wrap_i64];omega
theorem vO {n:Int} (h1:0≤n) (h2:n<256):IntKind.wrap .u8 n=n:=by
 rw[IntKind.wrap_u8'];omega
theorem lC {x y:Bs} (h:x.length+y.length≤9223372036854775807):dS x y=true:=by simp[dS,h]
theorem eC {x y:List V} {n:Nat} (h:(x.length+y.length)*n≤70368744177664):bI x y n=true:=by simp[bI,h]
theorem dC (l:Bs) (c:UInt8):ofBytes l++[.int .u8 (c.toNat:Int)]=ofBytes (l++[c]):=by simp[ofBytes]
theorem bP (l:Bs):bytesOf (ofBytes l)=l:=by
 simp[bytesOf,ofBytes,V.getI,Function.comp_def]
theorem aH (l:Bs):(ofBytes l).length=l.length:=by simp[ofBytes]
theorem getD_at {s:Bs} {i:Nat} (h:i<s.length):s.getD i 0=s[i]:=by simp[List.getD,h]
theorem drop_at {s:Bs} {i:Nat} (h:i<s.length):s.drop i=s[i]::s.drop (i+1):=List.drop_eq_getElem_cons h
theorem fB {p:UInt8→Prop} (h:∀n:Fin 256,p ⟨⟨n⟩⟩) (c:UInt8):p c:=by
 have:=h ⟨c.toNat,c.toNat_lt⟩
 simpa using this
end Go.Proofs.YtdoaoaicdimbeaaGreatDoor
end
section
namespace Go.Proofs.YtdoaoaicdimbeaaGreatDoor
open Go.Ev Go
open List (headD tail getD length drop take)
open V (getI getL getT getS getB)
set_option maxRecDepth 100000
variable (call : FuncId → Fun) (icall : aQ (V × List Ob)) (again : List It → St → Option (V × List Ob))
def Dg (call:FuncId→Fun) (ag0:List UInt8→List V→Int→Int→Option (V×List Ob)) (s0:List UInt8) (l1:List V) (i2:Int) (i3:Int):Option (V×List Ob):=
 if(decide (i3<i2))=true then
 chk (decide (0≤i3)) (chk (decide (i3<((length l1:Nat):Int))) (Option.bind (call 69 [(V.str (getS (headD (V.cells (getD l1 (Int.toNat i3) V.bot)) V.bot))),(V.str s0)] []) fun z0=>
 if(getB z0.1)=true then
 some ((V.tup [(V.str (getS (headD (tail (V.cells (getD l1 (Int.toNat i3) V.bot))) V.bot))),(V.bool true)]),[])
 else
 (ag0 (s0) (l1) (i2) ((IntKind.wrap .i64 (i3+(1:Int)))))))
 else
 some ((V.tup [(V.str []),(V.bool false)]),[])
def T58 (call:FuncId→Fun) (ag0:List UInt8→List V→Int→Int→Option (V×List Ob)) (a0:List UInt8) (a1:List UInt8) (a2:List V) (a3:List UInt8):Option (V×List Ob):=
 (ag0 (a3) (a2) (((length a2:Nat):Int)) ((0:Int)))
def A58 (a0:List UInt8) (a1:List UInt8) (a2:List V) (a3:List UInt8):List V:=[V.agg [V.str a0,V.str a1,V.lst 176 false a2],V.str a3]
def AY (s0:List UInt8) (l1:List V) (i2:Int) (i3:Int):St:=⟨[V.bot,(V.str s0),V.bot,V.bot,V.bot,V.bot,V.bot,V.bot,V.bot,(V.lst 176 false l1),(V.int IntKind.i64 i2),(V.int IntKind.i64 i3)]++List.replicate 10 V.bot,[]⟩
theorem NP (s0:List UInt8) (l1:List V) (i2:Int) (i3:Int):
 RM 58 Tryz.f58 [] call icall again (aK Tryz.f58 0) (AY s0 l1 i2 i3)=Dg call (fun s0 l1 i2 i3=>again (aK Tryz.f58 0) (AY s0 l1 i2 i3)) s0 l1 i2 i3:=by kernel_rfl
theorem E58 (a0:List UInt8) (a1:List UInt8) (a2:List V) (a3:List UInt8):GO 58 Tryz.f58 (A58 a0 a1 a2 a3) [] call icall again=T58 call (fun s0 l1 i2 i3=>again (aK Tryz.f58 0) (AY s0 l1 i2 i3)) a0 a1 a2 a3:=by kernel_rfl
def L58 (call:FuncId→Fun):Nat→(List UInt8→List V→Int→Int→Option (V×List Ob))
 |0=>fun _ _ _ _=>none
 |n+1=>Dg call (L58 call n)
theorem R58 (call:FuncId→Fun) (icall:aQ (V×List Ob)):∀n,(∀(s0:List UInt8) (l1:List V) (i2:Int) (i3:Int),RN 58 Tryz.f58 [] call icall n (aK Tryz.f58 0) (AY s0 l1 i2 i3)=(L58 call n) s0 l1 i2 i3)
 |0=>fun s0 l1 i2 i3=>rfl
 |n+1=>by
  have ih:=R58 call icall n
  exact fun s0 l1 i2 i3=>(NP call icall (RN 58 Tryz.f58 [] call icall n) s0 l1 i2 i3).trans (by rw[show(fun s0 l1 i2 i3=>RN 58 Tryz.f58 [] call icall n (aK Tryz.f58 0) (AY s0 l1 i2 i3))=(L58 call n)from(funext fun s0=>funext fun l1=>funext fun i2=>funext fun i3=>ih s0 l1 i2 i3)];rfl)
theorem C58 (k:Nat) (a0:List UInt8) (a1:List UInt8) (a2:List V) (a3:List UInt8):aA cfg (k+1) 58 (A58 a0 a1 a2 a3) []=T58 (aA cfg k) (L58 (aA cfg k) k) a0 a1 a2 a3:=by
 have ih:=R58 (aA cfg k) (aE cfg (aA cfg k) 20) k
 refine(show aA cfg (k+1) 58 (A58 a0 a1 a2 a3) []=GO 58 Tryz.f58 (A58 a0 a1 a2 a3) [] (aA cfg k) (aE cfg (aA cfg k) 20) (RN 58 Tryz.f58 [] (aA cfg k) (aE cfg (aA cfg k) 20) k)by kernel_rfl).trans ((E58 _ _ _ a0 a1 a2 a3).trans ?_)
 rw[show(fun s0 l1 i2 i3=>RN 58 Tryz.f58 [] (aA cfg k) (aE cfg (aA cfg k) 20) k (aK Tryz.f58 0) (AY s0 l1 i2 i3))=(L58 (aA cfg k) k)from(funext fun s0=>funext fun l1=>funext fun i2=>funext fun i3=>ih s0 l1 i2 i3)]
theorem M58 (a0:List UInt8) (a1:List UInt8) (a2:List V) (a3:List UInt8) {r:V×List Ob} (h:Evt (fun k n=>T58 (aA cfg k) (L58 (aA cfg k) n) a0 a1 a2 a3) r):Ret 58 [V.agg [V.str a0,V.str a1,V.lst 176 false a2],V.str a3] [] r:=aS (g:=fun k n=>T58 (aA cfg k) (L58 (aA cfg k) n) a0 a1 a2 a3) (fun k=>C58 k a0 a1 a2 a3) h
theorem K3 (s0:List UInt8) (l1:List V) (i2:Int) (i3:Int) {r:V×List Ob} (h:Evt (fun k n=>Dg (aA cfg k) (L58 (aA cfg k) n) s0 l1 i2 i3) r):Evt (fun k n=>(L58 (aA cfg k) n) s0 l1 i2 i3) r:=aV (fun k n=>rfl) h
def Dh (call:FuncId→Fun) (ag0:List V→List V→Int→Int→List UInt8→List UInt8→List V→List UInt8→List UInt8→List UInt8→List V→List (Sc×Sc)→Option (V×List Ob)) (l0:List V) (l1:List V) (i2:Int) (i3:Int) (s4:List UInt8) (s5:List UInt8) (l6:List V) (s7:List UInt8) (s8:List UInt8) (s9:List UInt8) (l10:List V) (m11:List (Sc×Sc)):Option (V×List Ob):=
 if(decide (i3<i2))=true then
 chk (decide (0≤i3)) (chk (decide (i3<((length l1:Nat):Int))) (Option.bind (call 133 [(V.str (getS (headD (V.cells (getD l1 (Int.toNat i3) V.bot)) V.bot))),(V.str [42])] []) fun z0=>
 Option.bind (if(sEq (getS (headD (getT z0.1) V.bot)) [])=false then
 some (Sc.getB (jD (Sc.str (getS (headD (getT z0.1) V.bot))) m11))
 else
 some true) fun y1=>
 if y1=true then
 (ag0 (l0) (l1) (i2) ((IntKind.wrap .i64 (i3+(1:Int)))) (s4) (s5) (l6) (s7) (s8) (s9) (l10) (m11))
 else
 Option.bind (call 134 [(V.lst 176 false l0),(V.str (getS (headD (getT z0.1) V.bot)))] []) fun z2=>
 if(getB (headD (tail (getT z2.1)) V.bot))=true then
 chk (bI l10 [(V.agg [(V.str (getS (headD (getT z0.1) V.bot))),(V.str (getS (headD (getT z2.1) V.bot)))])] 33) ((ag0 (l0) (l1) (i2) ((IntKind.wrap .i64 (i3+(1:Int)))) (s4) (s5) (l6) (s7) (s8) (s9) ((l10++[(V.agg [(V.str (getS (headD (getT z0.1) V.bot))),(V.str (getS (headD (getT z2.1) V.bot)))])])) ((pX (Sc.str (getS (headD (getT z0.1) V.bot))) (Sc.bool true) m11))))
 else
 (ag0 (l0) (l1) (i2) ((IntKind.wrap .i64 (i3+(1:Int)))) (s4) (s5) (l6) (s7) (s8) (s9) (l10) ((pX (Sc.str (getS (headD (getT z0.1) V.bot))) (Sc.bool true) m11)))))
 else
 some ((V.tup [(V.agg [(V.str s8),(V.str s9),(V.lst 176 false l10)]),(V.bool true)]),[])
def T99 (call:FuncId→Fun) (ag0:List V→List V→Int→Int→List UInt8→List UInt8→List V→List UInt8→List UInt8→List UInt8→List V→List (Sc×Sc)→Option (V×List Ob)) (a0:List UInt8) (a1:Bool):Option (V×List Ob):=
 Option.bind (call 129 [(V.agg [(V.ref 0 0)])] [(Ob.cells [(V.str a0)])]) fun z0=>
 Option.bind (call 130 [(V.agg [(V.ref 0 0)])] [(Ob.cells [(V.str (getS (headD (Ob.getC (headD z0.2 Ob.dead)) V.bot)))])]) fun z1=>
 Option.bind (call 73 [(V.str (getS z1.1))] []) fun z2=>
 if(sEq (getS z2.1) [])=true then
 some ((V.tup [(V.agg [(V.str []),(V.str []),(V.lst 176 false [])]),(V.bool false)]),[])
 else
 if a1=true then
 Option.bind (call 131 [(V.agg [(V.ref 0 0)]),(V.int .u8 47)] [(Ob.cells [(V.str (getS (headD (Ob.getC (headD z1.2 Ob.dead)) V.bot)))])]) fun z3=>
 if(!(getB z3.1))=true then
 some ((V.tup [(V.agg [(V.str []),(V.str []),(V.lst 176 false [])]),(V.bool false)]),[])
 else
 Option.bind (call 130 [(V.agg [(V.ref 0 0)])] [(Ob.cells [(V.str (getS (headD (Ob.getC (headD z3.2 Ob.dead)) V.bot)))])]) fun z4=>
 Option.bind (call 73 [(V.str (getS z4.1))] []) fun z5=>
 if(sEq (getS z5.1) [])=true then
 some ((V.tup [(V.agg [(V.str []),(V.str []),(V.lst 176 false [])]),(V.bool false)]),[])
 else
 Option.bind (call 132 [(V.agg [(V.ref 0 0)])] [(Ob.cells [(V.str (getS (headD (Ob.getC (headD z4.2 Ob.dead)) V.bot)))])]) fun z6=>
 (ag0 ((getL z6.1)) ((getL z6.1)) (((length (getL z6.1):Nat):Int)) ((0:Int)) ([]) ([]) ([]) ((getS (headD (Ob.getC (headD z6.2 Ob.dead)) V.bot))) ((getS z2.1)) ((getS z5.1)) ([]) ([]))
 else
 Option.bind (call 132 [(V.agg [(V.ref 0 0)])] [(Ob.cells [(V.str (getS (headD (Ob.getC (headD z1.2 Ob.dead)) V.bot)))])]) fun z3=>
 (ag0 ((getL z3.1)) ((getL z3.1)) (((length (getL z3.1):Nat):Int)) ((0:Int)) ([]) ([]) ([]) ((getS (headD (Ob.getC (headD z3.2 Ob.dead)) V.bot))) ((getS z2.1)) ([]) ([]) ([]))
def A99 (a0:List UInt8) (a1:Bool):List V:=[V.str a0,V.bool a1]
def AZ (l0:List V) (l1:List V) (i2:Int) (i3:Int) (s4:List UInt8) (s5:List UInt8) (l6:List V) (s7:List UInt8) (s8:List UInt8) (s9:List UInt8) (l10:List V) (m11:List (Sc×Sc)):St:=⟨[V.bot,V.bot,V.bot,V.bot,(V.ref 0 0),V.bot,V.bot,(V.ref 3 0),(V.lst 176 false l0),(V.mref 4),V.bot,V.bot,V.bot,V.bot,V.bot,V.bot,V.bot,V.bot,V.bot,V.bot,V.bot,V.bot,V.bot,V.bot,V.bot,V.bot,V.bot,V.bot,V.bot,V.bot,V.bot,V.bot,V.bot,V.bot,V.bot,V.bot,V.bot,V.bot,V.bot,V.bot,V.bot,V.bot,V.bot,V.bot,V.bot,V.bot,V.bot,(V.lst 176 false l1),(V.int IntKind.i64 i2),(V.int IntKind.i64 i3)]++List.replicate 36 V.bot,[(Ob.cells [(V.str s4),(V.str s5),(V.lst 176 true l6)]),(Ob.cells [(V.str s7)]),(Ob.cells [(V.ref 1 0)]),(Ob.cells [(V.str s8),(V.str s9),(V.lst 176 true l10)]),(Ob.mp SK.str SK.bool m11)]⟩
theorem NQ (l0:List V) (l1:List V) (i2:Int) (i3:Int) (s4:List UInt8) (s5:List UInt8) (l6:List V) (s7:List UInt8) (s8:List UInt8) (s9:List UInt8) (l10:List V) (m11:List (Sc×Sc)):
 RM 99 Tryz.f99 [] call icall again (aK Tryz.f99 0) (AZ l0 l1 i2 i3 s4 s5 l6 s7 s8 s9 l10 m11)=Dh call (fun l0 l1 i2 i3 s4 s5 l6 s7 s8 s9 l10 m11=>again (aK Tryz.f99 0) (AZ l0 l1 i2 i3 s4 s5 l6 s7 s8 s9 l10 m11)) l0 l1 i2 i3 s4 s5 l6 s7 s8 s9 l10 m11:=by kernel_rfl
theorem E99 (a0:List UInt8) (a1:Bool):GO 99 Tryz.f99 (A99 a0 a1) [] call icall again=T99 call (fun l0 l1 i2 i3 s4 s5 l6 s7 s8 s9 l10 m11=>again (aK Tryz.f99 0) (AZ l0 l1 i2 i3 s4 s5 l6 s7 s8 s9 l10 m11)) a0 a1:=by kernel_rfl
def L99 (call:FuncId→Fun):Nat→(List V→List V→Int→Int→List UInt8→List UInt8→List V→List UInt8→List UInt8→List UInt8→List V→List (Sc×Sc)→Option (V×List Ob))
 |0=>fun _ _ _ _ _ _ _ _ _ _ _ _=>none
 |n+1=>Dh call (L99 call n)
theorem R99 (call:FuncId→Fun) (icall:aQ (V×List Ob)):∀n,(∀(l0:List V) (l1:List V) (i2:Int) (i3:Int) (s4:List UInt8) (s5:List UInt8) (l6:List V) (s7:List UInt8) (s8:List UInt8) (s9:List UInt8) (l10:List V) (m11:List (Sc×Sc)),RN 99 Tryz.f99 [] call icall n (aK Tryz.f99 0) (AZ l0 l1 i2 i3 s4 s5 l6 s7 s8 s9 l10 m11)=(L99 call n) l0 l1 i2 i3 s4 s5 l6 s7 s8 s9 l10 m11)
 |0=>fun l0 l1 i2 i3 s4 s5 l6 s7 s8 s9 l10 m11=>rfl
 |n+1=>by
  have ih:=R99 call icall n
  exact fun l0 l1 i2 i3 s4 s5 l6 s7 s8 s9 l10 m11=>(NQ call icall (RN 99 Tryz.f99 [] call icall n) l0 l1 i2 i3 s4 s5 l6 s7 s8 s9 l10 m11).trans (by rw[show(fun l0 l1 i2 i3 s4 s5 l6 s7 s8 s9 l10 m11=>RN 99 Tryz.f99 [] call icall n (aK Tryz.f99 0) (AZ l0 l1 i2 i3 s4 s5 l6 s7 s8 s9 l10 m11))=(L99 call n)from(funext fun l0=>funext fun l1=>funext fun i2=>funext fun i3=>funext fun s4=>funext fun s5=>funext fun l6=>funext fun s7=>funext fun s8=>funext fun s9=>funext fun l10=>funext fun m11=>ih l0 l1 i2 i3 s4 s5 l6 s7 s8 s9 l10 m11)];rfl)
theorem C99 (k:Nat) (a0:List UInt8) (a1:Bool):aA cfg (k+1) 99 (A99 a0 a1) []=T99 (aA cfg k) (L99 (aA cfg k) k) a0 a1:=by
 have ih:=R99 (aA cfg k) (aE cfg (aA cfg k) 20) k
 refine(show aA cfg (k+1) 99 (A99 a0 a1) []=GO 99 Tryz.f99 (A99 a0 a1) [] (aA cfg k) (aE cfg (aA cfg k) 20) (RN 99 Tryz.f99 [] (aA cfg k) (aE cfg (aA cfg k) 20) k)by kernel_rfl).trans ((E99 _ _ _ a0 a1).trans ?_)
 rw[show(fun l0 l1 i2 i3 s4 s5 l6 s7 s8 s9 l10 m11=>RN 99 Tryz.f99 [] (aA cfg k) (aE cfg (aA cfg k) 20) k (aK Tryz.f99 0) (AZ l0 l1 i2 i3 s4 s5 l6 s7 s8 s9 l10 m11))=(L99 (aA cfg k) k)from(funext fun l0=>funext fun l1=>funext fun i2=>funext fun i3=>funext fun s4=>funext fun s5=>funext fun l6=>funext fun s7=>funext fun s8=>funext fun s9=>funext fun l10=>funext fun m11=>ih l0 l1 i2 i3 s4 s5 l6 s7 s8 s9 l10 m11)]
theorem M99 (a0:List UInt8) (a1:Bool) {r:V×List Ob} (h:Evt (fun k n=>T99 (aA cfg k) (L99 (aA cfg k) n) a0 a1) r):Ret 99 [V.str a0,V.bool a1] [] r:=aS (g:=fun k n=>T99 (aA cfg k) (L99 (aA cfg k) n) a0 a1) (fun k=>C99 k a0 a1) h
theorem K4 (l0:List V) (l1:List V) (i2:Int) (i3:Int) (s4:List UInt8) (s5:List UInt8) (l6:List V) (s7:List UInt8) (s8:List UInt8) (s9:List UInt8) (l10:List V) (m11:List (Sc×Sc)) {r:V×List Ob} (h:Evt (fun k n=>Dh (aA cfg k) (L99 (aA cfg k) n) l0 l1 i2 i3 s4 s5 l6 s7 s8 s9 l10 m11) r):Evt (fun k n=>(L99 (aA cfg k) n) l0 l1 i2 i3 s4 s5 l6 s7 s8 s9 l10 m11) r:=aV (fun k n=>rfl) h
def T69 (call:FuncId→Fun) (a0:List UInt8) (a1:List UInt8):Option (V×List Ob):=
 Option.bind (call 73 [(V.str a0)] []) fun z0=>
 Option.bind (call 73 [(V.str a1)] []) fun z1=>
 some ((V.bool (sEq (getS z0.1) (getS z1.1))),[])
def A69 (a0:List UInt8) (a1:List UInt8):List V:=[V.str a0,V.str a1]
theorem E69 (a0:List UInt8) (a1:List UInt8):GO 69 Tryz.f69 (A69 a0 a1) [] call icall again=T69 call a0 a1:=by kernel_rfl
theorem C69 (k:Nat) (a0:List UInt8) (a1:List UInt8):aA cfg (k+1) 69 (A69 a0 a1) []=T69 (aA cfg k) a0 a1:=
 (show aA cfg (k+1) 69 (A69 a0 a1) []=GO 69 Tryz.f69 (A69 a0 a1) [] (aA cfg k) (aE cfg (aA cfg k) 20) (RN 69 Tryz.f69 [] (aA cfg k) (aE cfg (aA cfg k) 20) k)by kernel_rfl).trans (E69 _ _ _ a0 a1)
theorem M69 (a0:List UInt8) (a1:List UInt8) {r:V×List Ob} (h:Evt (fun k n=>T69 (aA cfg k) a0 a1) r):Ret 69 [V.str a0,V.str a1] [] r:=aS (g:=fun k n=>T69 (aA cfg k) a0 a1) (fun k=>C69 k a0 a1) h
def yJ (call:FuncId→Fun) (ag0:List UInt8→Option (V×List Ob)) (s0:List UInt8):Option (V×List Ob):=
 if(decide (((length s0:Nat):Int)>(0:Int)))=true then
 Option.bind (call 151 [(V.ref 0 0),(V.int .i64 0)] [(Ob.cells [(V.str s0)])]) fun z0=>
 Option.bind (call 104 [(V.int .u8 (getI z0.1))] []) fun z1=>
 if(getB z1.1)=true then
 chk (decide (0≤(1:Int))) (chk (decide ((1:Int)≤((length s0:Nat):Int))) ((ag0 ((drop (Int.toNat (1:Int)) s0)))))
 else
 if((getI z0.1)==(40:Int))=true then
 Option.bind (call 152 [(V.agg [(V.ref 0 0)])] [(Ob.cells [(V.str s0)])]) fun z2=>
 chk (decide (0≤(getI z2.1))) (chk (decide ((getI z2.1)≤((length s0:Nat):Int))) ((ag0 ((drop (Int.toNat (getI z2.1)) s0)))))
 else
 some ((V.tup []),[(Ob.cells [(V.str s0)])])
 else
 some ((V.tup []),[(Ob.cells [(V.str s0)])])
def Hl (call:FuncId→Fun) (ag0:List UInt8→Option (V×List Ob)) (a0:List UInt8):Option (V×List Ob):=
 (ag0 (a0))
def Af (a0:List UInt8):List Ob:=[Ob.cells [V.str a0]]
def JI:List V:=[V.agg [V.ref 0 0]]
def tY (s0:List UInt8):St:=⟨[V.bot,(V.ref 1 0)]++List.replicate 39 V.bot,[(Ob.cells [(V.str s0)]),(Ob.cells [(V.ref 0 0)])]⟩
theorem LR (a0:List UInt8) (s0:List UInt8):
 RM 129 Tryz.f129 (Af a0) call icall again (aK Tryz.f129 0) (tY s0)=yJ call (fun s0=>again (aK Tryz.f129 0) (tY s0)) s0:=by kernel_rfl
theorem Pi (a0:List UInt8):GO 129 Tryz.f129 JI (Af a0) call icall again=Hl call (fun s0=>again (aK Tryz.f129 0) (tY s0)) a0:=by kernel_rfl
def Ag (call:FuncId→Fun):Nat→(List UInt8→Option (V×List Ob))
 |0=>fun _=>none
 |n+1=>yJ call (Ag call n)
theorem NR (call:FuncId→Fun) (icall:aQ (V×List Ob)) (a0:List UInt8):∀n,(∀(s0:List UInt8),RN 129 Tryz.f129 (Af a0) call icall n (aK Tryz.f129 0) (tY s0)=(Ag call n) s0)
 |0=>fun s0=>rfl
 |n+1=>by
  have ih:=NR call icall a0 n
  exact fun s0=>(LR call icall (RN 129 Tryz.f129 (Af a0) call icall n) a0 s0).trans (by rw[show(fun s0=>RN 129 Tryz.f129 (Af a0) call icall n (aK Tryz.f129 0) (tY s0))=(Ag call n)from(funext fun s0=>ih s0)];rfl)
theorem Pj (k:Nat) (a0:List UInt8):aA cfg (k+1) 129 JI (Af a0)=Hl (aA cfg k) (Ag (aA cfg k) k) a0:=by
 have ih:=NR (aA cfg k) (aE cfg (aA cfg k) 20) a0 k
 refine(show aA cfg (k+1) 129 JI (Af a0)=GO 129 Tryz.f129 JI (Af a0) (aA cfg k) (aE cfg (aA cfg k) 20) (RN 129 Tryz.f129 (Af a0) (aA cfg k) (aE cfg (aA cfg k) 20) k)by kernel_rfl).trans ((Pi _ _ _ a0).trans ?_)
 rw[show(fun s0=>RN 129 Tryz.f129 (Af a0) (aA cfg k) (aE cfg (aA cfg k) 20) k (aK Tryz.f129 0) (tY s0))=(Ag (aA cfg k) k)from(funext fun s0=>ih s0)]
theorem Pk (a0:List UInt8) {r:V×List Ob} (h:Evt (fun k n=>Hl (aA cfg k) (Ag (aA cfg k) n) a0) r):Ret 129 [V.agg [V.ref 0 0]] [Ob.cells [V.str a0]] r:=aS (g:=fun k n=>Hl (aA cfg k) (Ag (aA cfg k) n) a0) (fun k=>Pj k a0) h
theorem Hm (s0:List UInt8) {r:V×List Ob} (h:Evt (fun k n=>yJ (aA cfg k) (Ag (aA cfg k) n) s0) r):Evt (fun k n=>(Ag (aA cfg k) n) s0) r:=aV (fun k n=>rfl) h
def yK (call:FuncId→Fun) (ag0:Int→List UInt8→Option (V×List Ob)) (i0:Int) (s1:List UInt8):Option (V×List Ob):=
 if(decide (i0<((length s1:Nat):Int)))=true then
 chk (decide (0≤i0)) (chk (decide (i0<((length s1:Nat):Int))) (Option.bind (call 153 [(V.int .u8 ((UInt8.toNat (getD s1 (Int.toNat i0) 0):Nat):Int))] []) fun z0=>
 if(getB z0.1)=true then
 (ag0 ((IntKind.wrap .i64 (i0+(1:Int)))) (s1))
 else
 chk (decide (0≤i0)) (chk (decide (i0≤((length s1:Nat):Int))) (chk (decide (0≤(0:Int))) (chk (decide ((0:Int)≤i0)) (chk (decide (0≤i0)) (chk (decide (i0≤((length s1:Nat):Int))) (some ((V.str (drop (Int.toNat (0:Int)) (take (Int.toNat i0) s1))),[(Ob.cells [(V.str (drop (Int.toNat i0) s1))])])))))))))
 else
 chk (decide (0≤i0)) (chk (decide (i0≤((length s1:Nat):Int))) (chk (decide (0≤(0:Int))) (chk (decide ((0:Int)≤i0)) (chk (decide (0≤i0)) (chk (decide (i0≤((length s1:Nat):Int))) (some ((V.str (drop (Int.toNat (0:Int)) (take (Int.toNat i0) s1))),[(Ob.cells [(V.str (drop (Int.toNat i0) s1))])])))))))
def Hn (call:FuncId→Fun) (ag0:Int→List UInt8→Option (V×List Ob)) (a0:List UInt8):Option (V×List Ob):=
 (ag0 ((0:Int)) (a0))
def Ah (a0:List UInt8):List Ob:=[Ob.cells [V.str a0]]
def JJ:List V:=[V.agg [V.ref 0 0]]
def tZ (i0:Int) (s1:List UInt8):St:=⟨[V.bot,(V.ref 1 0),V.bot,(V.int IntKind.i64 i0)]++List.replicate 40 V.bot,[(Ob.cells [(V.str s1)]),(Ob.cells [(V.ref 0 0)])]⟩
theorem LU (a0:List UInt8) (i0:Int) (s1:List UInt8):
 RM 130 Tryz.f130 (Ah a0) call icall again (aK Tryz.f130 0) (tZ i0 s1)=yK call (fun i0 s1=>again (aK Tryz.f130 0) (tZ i0 s1)) i0 s1:=by kernel_rfl
theorem Pl (a0:List UInt8):GO 130 Tryz.f130 JJ (Ah a0) call icall again=Hn call (fun i0 s1=>again (aK Tryz.f130 0) (tZ i0 s1)) a0:=by kernel_rfl
def Ai (call:FuncId→Fun):Nat→(Int→List UInt8→Option (V×List Ob))
 |0=>fun _ _=>none
 |n+1=>yK call (Ai call n)
theorem NS (call:FuncId→Fun) (icall:aQ (V×List Ob)) (a0:List UInt8):∀n,(∀(i0:Int) (s1:List UInt8),RN 130 Tryz.f130 (Ah a0) call icall n (aK Tryz.f130 0) (tZ i0 s1)=(Ai call n) i0 s1)
 |0=>fun i0 s1=>rfl
 |n+1=>by
  have ih:=NS call icall a0 n
  exact fun i0 s1=>(LU call icall (RN 130 Tryz.f130 (Ah a0) call icall n) a0 i0 s1).trans (by rw[show(fun i0 s1=>RN 130 Tryz.f130 (Ah a0) call icall n (aK Tryz.f130 0) (tZ i0 s1))=(Ai call n)from(funext fun i0=>funext fun s1=>ih i0 s1)];rfl)
theorem Pm (k:Nat) (a0:List UInt8):aA cfg (k+1) 130 JJ (Ah a0)=Hn (aA cfg k) (Ai (aA cfg k) k) a0:=by
 have ih:=NS (aA cfg k) (aE cfg (aA cfg k) 20) a0 k
 refine(show aA cfg (k+1) 130 JJ (Ah a0)=GO 130 Tryz.f130 JJ (Ah a0) (aA cfg k) (aE cfg (aA cfg k) 20) (RN 130 Tryz.f130 (Ah a0) (aA cfg k) (aE cfg (aA cfg k) 20) k)by kernel_rfl).trans ((Pl _ _ _ a0).trans ?_)
 rw[show(fun i0 s1=>RN 130 Tryz.f130 (Ah a0) (aA cfg k) (aE cfg (aA cfg k) 20) k (aK Tryz.f130 0) (tZ i0 s1))=(Ai (aA cfg k) k)from(funext fun i0=>funext fun s1=>ih i0 s1)]
theorem Pn (a0:List UInt8) {r:V×List Ob} (h:Evt (fun k n=>Hn (aA cfg k) (Ai (aA cfg k) n) a0) r):Ret 130 [V.agg [V.ref 0 0]] [Ob.cells [V.str a0]] r:=aS (g:=fun k n=>Hn (aA cfg k) (Ai (aA cfg k) n) a0) (fun k=>Pm k a0) h
theorem Ho (i0:Int) (s1:List UInt8) {r:V×List Ob} (h:Evt (fun k n=>yK (aA cfg k) (Ai (aA cfg k) n) i0 s1) r):Evt (fun k n=>(Ai (aA cfg k) n) i0 s1) r:=aV (fun k n=>rfl) h
def Hp (call:FuncId→Fun) (a0:List UInt8) (a1:Int):Option (V×List Ob):=
 Option.bind (call 129 [(V.agg [(V.ref 0 0)])] [(Ob.cells [(V.str a0)])]) fun z0=>
 Option.bind (call 151 [(V.ref 0 0),(V.int .i64 0)] [(Ob.cells [(V.str (getS (headD (Ob.getC (headD z0.2 Ob.dead)) V.bot)))])]) fun z1=>
 if((getI z1.1) != a1)=true then
 some ((V.bool false),[(Ob.cells [(V.str (getS (headD (Ob.getC (headD z0.2 Ob.dead)) V.bot)))])])
 else
 chk (decide (0≤(1:Int))) (chk (decide ((1:Int)≤((length (getS (headD (Ob.getC (headD z0.2 Ob.dead)) V.bot)):Nat):Int))) (Option.bind (call 129 [(V.agg [(V.ref 0 0)])] [(Ob.cells [(V.str (drop (Int.toNat (1:Int)) (getS (headD (Ob.getC (headD z0.2 Ob.dead)) V.bot))))])]) fun z2=>
 some ((V.bool true),[(Ob.cells [(V.str (getS (headD (Ob.getC (headD z2.2 Ob.dead)) V.bot)))])])))
def Hq (a0:List UInt8):List Ob:=[Ob.cells [V.str a0]]
def JK (a1:Int):List V:=[V.agg [V.ref 0 0],V.int IntKind.u8 a1]
theorem Po (a0:List UInt8) (a1:Int):GO 131 Tryz.f131 (JK a1) (Hq a0) call icall again=Hp call a0 a1:=by kernel_rfl
theorem Pp (k:Nat) (a0:List UInt8) (a1:Int):aA cfg (k+1) 131 (JK a1) (Hq a0)=Hp (aA cfg k) a0 a1:=
 (show aA cfg (k+1) 131 (JK a1) (Hq a0)=GO 131 Tryz.f131 (JK a1) (Hq a0) (aA cfg k) (aE cfg (aA cfg k) 20) (RN 131 Tryz.f131 (Hq a0) (aA cfg k) (aE cfg (aA cfg k) 20) k)by kernel_rfl).trans (Po _ _ _ a0 a1)
theorem Pq (a0:List UInt8) (a1:Int) {r:V×List Ob} (h:Evt (fun k n=>Hp (aA cfg k) a0 a1) r):Ret 131 [V.agg [V.ref 0 0],V.int IntKind.u8 a1] [Ob.cells [V.str a0]] r:=aS (g:=fun k n=>Hp (aA cfg k) a0 a1) (fun k=>Pp k a0 a1) h
def uA (call:FuncId→Fun) (ag0:List V→List UInt8→Option (V×List Ob)) (l0:List V) (s1:List UInt8):Option (V×List Ob):=
 Option.bind (call 131 [(V.agg [(V.ref 0 0)]),(V.int .u8 59)] [(Ob.cells [(V.str s1)])]) fun z0=>
 if(getB z0.1)=true then
 Option.bind (call 130 [(V.agg [(V.ref 0 0)])] [(Ob.cells [(V.str (getS (headD (Ob.getC (headD z0.2 Ob.dead)) V.bot)))])]) fun z1=>
 Option.bind (call 73 [(V.str (getS z1.1))] []) fun z2=>
 if(sEq (getS z2.1) [])=false then
 Option.bind (call 131 [(V.agg [(V.ref 0 0)]),(V.int .u8 61)] [(Ob.cells [(V.str (getS (headD (Ob.getC (headD z1.2 Ob.dead)) V.bot)))])]) fun z3=>
 if(!(getB z3.1))=true then
 some ((V.lst 176 false l0),[(Ob.cells [(V.str (getS (headD (Ob.getC (headD z3.2 Ob.dead)) V.bot)))])])
 else
 Option.bind (call 154 [(V.agg [(V.ref 0 0)])] [(Ob.cells [(V.str (getS (headD (Ob.getC (headD z3.2 Ob.dead)) V.bot)))])]) fun z4=>
 if(!(getB (headD (tail (getT z4.1)) V.bot)))=true then
 some ((V.lst 176 false l0),[(Ob.cells [(V.str (getS (headD (Ob.getC (headD z4.2 Ob.dead)) V.bot)))])])
 else
 chk (bI l0 [(V.agg [(V.str (getS z2.1)),(V.str (getS (headD (getT z4.1) V.bot)))])] 33) ((ag0 ((l0++[(V.agg [(V.str (getS z2.1)),(V.str (getS (headD (getT z4.1) V.bot)))])])) ((getS (headD (Ob.getC (headD z4.2 Ob.dead)) V.bot)))))
 else
 some ((V.lst 176 false l0),[(Ob.cells [(V.str (getS (headD (Ob.getC (headD z1.2 Ob.dead)) V.bot)))])])
 else
 some ((V.lst 176 false l0),[(Ob.cells [(V.str (getS (headD (Ob.getC (headD z0.2 Ob.dead)) V.bot)))])])
def Hr (call:FuncId→Fun) (ag0:List V→List UInt8→Option (V×List Ob)) (a0:List UInt8):Option (V×List Ob):=
 (ag0 ([]) (a0))
def Aj (a0:List UInt8):List Ob:=[Ob.cells [V.str a0]]
def JL:List V:=[V.agg [V.ref 0 0]]
def uB (l0:List V) (s1:List UInt8):St:=⟨[V.bot,(V.ref 1 0),V.bot,(V.lst 176 true l0)]++List.replicate 29 V.bot,[(Ob.cells [(V.str s1)]),(Ob.cells [(V.ref 0 0)])]⟩
theorem LV (a0:List UInt8) (l0:List V) (s1:List UInt8):
 RM 132 Tryz.f132 (Aj a0) call icall again (aK Tryz.f132 0) (uB l0 s1)=uA call (fun l0 s1=>again (aK Tryz.f132 0) (uB l0 s1)) l0 s1:=by kernel_rfl
theorem Pr (a0:List UInt8):GO 132 Tryz.f132 JL (Aj a0) call icall again=Hr call (fun l0 s1=>again (aK Tryz.f132 0) (uB l0 s1)) a0:=by kernel_rfl
def wF (call:FuncId→Fun):Nat→(List V→List UInt8→Option (V×List Ob))
 |0=>fun _ _=>none
 |n+1=>uA call (wF call n)
theorem NT (call:FuncId→Fun) (icall:aQ (V×List Ob)) (a0:List UInt8):∀n,(∀(l0:List V) (s1:List UInt8),RN 132 Tryz.f132 (Aj a0) call icall n (aK Tryz.f132 0) (uB l0 s1)=(wF call n) l0 s1)
 |0=>fun l0 s1=>rfl
 |n+1=>by
  have ih:=NT call icall a0 n
  exact fun l0 s1=>(LV call icall (RN 132 Tryz.f132 (Aj a0) call icall n) a0 l0 s1).trans (by rw[show(fun l0 s1=>RN 132 Tryz.f132 (Aj a0) call icall n (aK Tryz.f132 0) (uB l0 s1))=(wF call n)from(funext fun l0=>funext fun s1=>ih l0 s1)];rfl)
theorem Pu (k:Nat) (a0:List UInt8):aA cfg (k+1) 132 JL (Aj a0)=Hr (aA cfg k) (wF (aA cfg k) k) a0:=by
 have ih:=NT (aA cfg k) (aE cfg (aA cfg k) 20) a0 k
 refine(show aA cfg (k+1) 132 JL (Aj a0)=GO 132 Tryz.f132 JL (Aj a0) (aA cfg k) (aE cfg (aA cfg k) 20) (RN 132 Tryz.f132 (Aj a0) (aA cfg k) (aE cfg (aA cfg k) 20) k)by kernel_rfl).trans ((Pr _ _ _ a0).trans ?_)
 rw[show(fun l0 s1=>RN 132 Tryz.f132 (Aj a0) (aA cfg k) (aE cfg (aA cfg k) 20) k (aK Tryz.f132 0) (uB l0 s1))=(wF (aA cfg k) k)from(funext fun l0=>funext fun s1=>ih l0 s1)]
theorem Pv (a0:List UInt8) {r:V×List Ob} (h:Evt (fun k n=>Hr (aA cfg k) (wF (aA cfg k) n) a0) r):Ret 132 [V.agg [V.ref 0 0]] [Ob.cells [V.str a0]] r:=aS (g:=fun k n=>Hr (aA cfg k) (wF (aA cfg k) n) a0) (fun k=>Pu k a0) h
theorem EG (l0:List V) (s1:List UInt8) {r:V×List Ob} (h:Evt (fun k n=>uA (aA cfg k) (wF (aA cfg k) n) l0 s1) r):Evt (fun k n=>(wF (aA cfg k) n) l0 s1) r:=aV (fun k n=>rfl) h
def Ht (call:FuncId→Fun) (a0:List UInt8) (a1:List UInt8):Option (V×List Ob):=
 Option.bind (call 155 [(V.str a0),(V.str a1)] []) fun z0=>
 some ((V.tup [(V.str (getS (headD (getT z0.1) V.bot))),(V.str (getS (headD (tail (getT z0.1)) V.bot))),(V.bool (getB (headD (tail (tail (getT z0.1))) V.bot)))]),[])
def JM (a0:List UInt8) (a1:List UInt8):List V:=[V.str a0,V.str a1]
theorem Pw (a0:List UInt8) (a1:List UInt8):GO 133 Tryz.f133 (JM a0 a1) [] call icall again=Ht call a0 a1:=by kernel_rfl
theorem Px (k:Nat) (a0:List UInt8) (a1:List UInt8):aA cfg (k+1) 133 (JM a0 a1) []=Ht (aA cfg k) a0 a1:=
 (show aA cfg (k+1) 133 (JM a0 a1) []=GO 133 Tryz.f133 (JM a0 a1) [] (aA cfg k) (aE cfg (aA cfg k) 20) (RN 133 Tryz.f133 [] (aA cfg k) (aE cfg (aA cfg k) 20) k)by kernel_rfl).trans (Pw _ _ _ a0 a1)
theorem Py (a0:List UInt8) (a1:List UInt8) {r:V×List Ob} (h:Evt (fun k n=>Ht (aA cfg k) a0 a1) r):Ret 133 [V.str a0,V.str a1] [] r:=aS (g:=fun k n=>Ht (aA cfg k) a0 a1) (fun k=>Px k a0 a1) h
def Hu (call:FuncId→Fun) (a0:List V) (a1:List UInt8):Option (V×List Ob):=
 Option.bind (call 156 [(V.lst 176 false a0),(V.str a1)] []) fun z0=>
 if(getB (headD (tail (getT z0.1)) V.bot))=true then
 some ((V.tup [(V.str (getS (headD (getT z0.1) V.bot))),(V.bool true)]),[])
 else
 chk (dS a1 [42]) (Option.bind (call 156 [(V.lst 176 false a0),(V.str (a1++[42]))] []) fun z1=>
 if(getB (headD (tail (getT z1.1)) V.bot))=true then
 Option.bind (call 158 [(V.str (getS (headD (getT z1.1) V.bot)))] []) fun z2=>
 Option.bind (call 157 [(V.str (getS z2.1))] []) fun z3=>
 some ((V.tup [(V.str (getS z3.1)),(V.bool true)]),[])
 else
 Option.bind (call 159 [(V.lst 176 false a0),(V.str a1)] []) fun z2=>
 some ((V.tup [(V.str (getS (headD (getT z2.1) V.bot))),(V.bool (getB (headD (tail (getT z2.1)) V.bot)))]),[]))
def JO (a0:List V) (a1:List UInt8):List V:=[V.lst 176 false a0,V.str a1]
theorem Pz (a0:List V) (a1:List UInt8):GO 134 Tryz.f134 (JO a0 a1) [] call icall again=Hu call a0 a1:=by kernel_rfl
theorem PC (k:Nat) (a0:List V) (a1:List UInt8):aA cfg (k+1) 134 (JO a0 a1) []=Hu (aA cfg k) a0 a1:=
 (show aA cfg (k+1) 134 (JO a0 a1) []=GO 134 Tryz.f134 (JO a0 a1) [] (aA cfg k) (aE cfg (aA cfg k) 20) (RN 134 Tryz.f134 [] (aA cfg k) (aE cfg (aA cfg k) 20) k)by kernel_rfl).trans (Pz _ _ _ a0 a1)
theorem PD (a0:List V) (a1:List UInt8) {r:V×List Ob} (h:Evt (fun k n=>Hu (aA cfg k) a0 a1) r):Ret 134 [V.lst 176 false a0,V.str a1] [] r:=aS (g:=fun k n=>Hu (aA cfg k) a0 a1) (fun k=>PC k a0 a1) h
def Hv (call:FuncId→Fun) (a0:List UInt8) (a1:Int):Option (V×List Ob):=
 if(decide (a1≥((length a0:Nat):Int)))=true then
 some ((V.int .u8 0),[(Ob.cells [(V.str a0)])])
 else
 chk (decide (0≤a1)) (chk (decide (a1<((length a0:Nat):Int))) (some ((V.int .u8 ((UInt8.toNat (getD a0 (Int.toNat a1) 0):Nat):Int)),[(Ob.cells [(V.str a0)])])))
def Hw (a0:List UInt8):List Ob:=[Ob.cells [V.str a0]]
def JP (a1:Int):List V:=[V.ref 0 0,V.int IntKind.i64 a1]
theorem PE (a0:List UInt8) (a1:Int):GO 151 Tryz.f151 (JP a1) (Hw a0) call icall again=Hv call a0 a1:=by kernel_rfl
theorem PG (k:Nat) (a0:List UInt8) (a1:Int):aA cfg (k+1) 151 (JP a1) (Hw a0)=Hv (aA cfg k) a0 a1:=
 (show aA cfg (k+1) 151 (JP a1) (Hw a0)=GO 151 Tryz.f151 (JP a1) (Hw a0) (aA cfg k) (aE cfg (aA cfg k) 20) (RN 151 Tryz.f151 (Hw a0) (aA cfg k) (aE cfg (aA cfg k) 20) k)by kernel_rfl).trans (PE _ _ _ a0 a1)
theorem PH (a0:List UInt8) (a1:Int) {r:V×List Ob} (h:Evt (fun k n=>Hv (aA cfg k) a0 a1) r):Ret 151 [V.ref 0 0,V.int IntKind.i64 a1] [Ob.cells [V.str a0]] r:=aS (g:=fun k n=>Hv (aA cfg k) a0 a1) (fun k=>PG k a0 a1) h
def Hx (call:FuncId→Fun) (a0:Int):Option (V×List Ob):=
 Option.bind (if(a0==(32:Int))=false then
 some (a0==(9:Int))
 else
 some true) fun y0=>
 some ((V.bool y0),[])
def JQ (a0:Int):List V:=[V.int IntKind.u8 a0]
theorem PI (a0:Int):GO 104 Tryz.f104 (JQ a0) [] call icall again=Hx call a0:=by kernel_rfl
theorem PK (k:Nat) (a0:Int):aA cfg (k+1) 104 (JQ a0) []=Hx (aA cfg k) a0:=
 (show aA cfg (k+1) 104 (JQ a0) []=GO 104 Tryz.f104 (JQ a0) [] (aA cfg k) (aE cfg (aA cfg k) 20) (RN 104 Tryz.f104 [] (aA cfg k) (aE cfg (aA cfg k) 20) k)by kernel_rfl).trans (PI _ _ _ a0)
theorem PL (a0:Int) {r:V×List Ob} (h:Evt (fun k n=>Hx (aA cfg k) a0) r):Ret 104 [V.int IntKind.u8 a0] [] r:=aS (g:=fun k n=>Hx (aA cfg k) a0) (fun k=>PK k a0) h
def lD (call:FuncId→Fun) (ag0:Int→Int→List UInt8→Option (V×List Ob)) (i0:Int) (i1:Int) (s2:List UInt8):Option (V×List Ob):=
 if(decide (i1<((length s2:Nat):Int)))=true then
 chk (decide (0≤i1)) (chk (decide (i1<((length s2:Nat):Int))) (if(((UInt8.toNat (getD s2 (Int.toNat i1) 0):Nat):Int)==(92:Int))=true then
 (ag0 (i0) ((IntKind.wrap .i64 ((IntKind.wrap .i64 (i1+(1:Int)))+(1:Int)))) (s2))
 else
 if(((UInt8.toNat (getD s2 (Int.toNat i1) 0):Nat):Int)==(40:Int))=true then
 (ag0 ((IntKind.wrap .i64 (i0+(1:Int)))) ((IntKind.wrap .i64 (i1+(1:Int)))) (s2))
 else
 if(((UInt8.toNat (getD s2 (Int.toNat i1) 0):Nat):Int)==(41:Int))=true then
 if((IntKind.wrap .i64 (i0 - (1:Int)))==(0:Int))=true then
 some ((V.int .i64 (IntKind.wrap .i64 (i1+(1:Int)))),[(Ob.cells [(V.str s2)])])
 else
 (ag0 ((IntKind.wrap .i64 (i0 - (1:Int)))) ((IntKind.wrap .i64 (i1+(1:Int)))) (s2))
 else
 (ag0 (i0) ((IntKind.wrap .i64 (i1+(1:Int)))) (s2))))
 else
 some ((V.int .i64 ((length s2:Nat):Int)),[(Ob.cells [(V.str s2)])])
def Hy (call:FuncId→Fun) (ag0:Int→Int→List UInt8→Option (V×List Ob)) (a0:List UInt8):Option (V×List Ob):=
 (ag0 ((0:Int)) ((0:Int)) (a0))
def Ak (a0:List UInt8):List Ob:=[Ob.cells [V.str a0]]
def JR:List V:=[V.agg [V.ref 0 0]]
def uC (i0:Int) (i1:Int) (s2:List UInt8):St:=⟨[V.bot,(V.ref 1 0),V.bot,(V.int IntKind.i64 i0),(V.int IntKind.i64 i1)]++List.replicate 39 V.bot,[(Ob.cells [(V.str s2)]),(Ob.cells [(V.ref 0 0)])]⟩
theorem LW (a0:List UInt8) (i0:Int) (i1:Int) (s2:List UInt8):
 RM 152 Tryz.f152 (Ak a0) call icall again (aK Tryz.f152 0) (uC i0 i1 s2)=lD call (fun i0 i1 s2=>again (aK Tryz.f152 0) (uC i0 i1 s2)) i0 i1 s2:=by kernel_rfl
theorem PM (a0:List UInt8):GO 152 Tryz.f152 JR (Ak a0) call icall again=Hy call (fun i0 i1 s2=>again (aK Tryz.f152 0) (uC i0 i1 s2)) a0:=by kernel_rfl
def uD (call:FuncId→Fun):Nat→(Int→Int→List UInt8→Option (V×List Ob))
 |0=>fun _ _ _=>none
 |n+1=>lD call (uD call n)
theorem NU (call:FuncId→Fun) (icall:aQ (V×List Ob)) (a0:List UInt8):∀n,(∀(i0:Int) (i1:Int) (s2:List UInt8),RN 152 Tryz.f152 (Ak a0) call icall n (aK Tryz.f152 0) (uC i0 i1 s2)=(uD call n) i0 i1 s2)
 |0=>fun i0 i1 s2=>rfl
 |n+1=>by
  have ih:=NU call icall a0 n
  exact fun i0 i1 s2=>(LW call icall (RN 152 Tryz.f152 (Ak a0) call icall n) a0 i0 i1 s2).trans (by rw[show(fun i0 i1 s2=>RN 152 Tryz.f152 (Ak a0) call icall n (aK Tryz.f152 0) (uC i0 i1 s2))=(uD call n)from(funext fun i0=>funext fun i1=>funext fun s2=>ih i0 i1 s2)];rfl)
theorem PN (k:Nat) (a0:List UInt8):aA cfg (k+1) 152 JR (Ak a0)=Hy (aA cfg k) (uD (aA cfg k) k) a0:=by
 have ih:=NU (aA cfg k) (aE cfg (aA cfg k) 20) a0 k
 refine(show aA cfg (k+1) 152 JR (Ak a0)=GO 152 Tryz.f152 JR (Ak a0) (aA cfg k) (aE cfg (aA cfg k) 20) (RN 152 Tryz.f152 (Ak a0) (aA cfg k) (aE cfg (aA cfg k) 20) k)by kernel_rfl).trans ((PM _ _ _ a0).trans ?_)
 rw[show(fun i0 i1 s2=>RN 152 Tryz.f152 (Ak a0) (aA cfg k) (aE cfg (aA cfg k) 20) k (aK Tryz.f152 0) (uC i0 i1 s2))=(uD (aA cfg k) k)from(funext fun i0=>funext fun i1=>funext fun s2=>ih i0 i1 s2)]
theorem PO (a0:List UInt8) {r:V×List Ob} (h:Evt (fun k n=>Hy (aA cfg k) (uD (aA cfg k) n) a0) r):Ret 152 [V.agg [V.ref 0 0]] [Ob.cells [V.str a0]] r:=aS (g:=fun k n=>Hy (aA cfg k) (uD (aA cfg k) n) a0) (fun k=>PN k a0) h
theorem Hz (i0:Int) (i1:Int) (s2:List UInt8) {r:V×List Ob} (h:Evt (fun k n=>lD (aA cfg k) (uD (aA cfg k) n) i0 i1 s2) r):Evt (fun k n=>(uD (aA cfg k) n) i0 i1 s2) r:=aV (fun k n=>rfl) h
def HA (call:FuncId→Fun) (a0:Int):Option (V×List Ob):=
 Option.bind (if(decide (a0≥(65:Int)))=true then
 some (decide (a0≤(90:Int)))
 else
 some false) fun y0=>
 if y0=true then
 some ((V.int .u8 (IntKind.wrap .u8 ((IntKind.wrap .u8 (a0 - (65:Int)))+(97:Int)))),[])
 else
 some ((V.int .u8 a0),[])
def JS (a0:Int):List V:=[V.int IntKind.u8 a0]
theorem PP (a0:Int):GO 111 Tryz.f111 (JS a0) [] call icall again=HA call a0:=by kernel_rfl
theorem PQ (k:Nat) (a0:Int):aA cfg (k+1) 111 (JS a0) []=HA (aA cfg k) a0:=
 (show aA cfg (k+1) 111 (JS a0) []=GO 111 Tryz.f111 (JS a0) [] (aA cfg k) (aE cfg (aA cfg k) 20) (RN 111 Tryz.f111 [] (aA cfg k) (aE cfg (aA cfg k) 20) k)by kernel_rfl).trans (PP _ _ _ a0)
theorem PR (a0:Int) {r:V×List Ob} (h:Evt (fun k n=>HA (aA cfg k) a0) r):Ret 111 [V.int IntKind.u8 a0] [] r:=aS (g:=fun k n=>HA (aA cfg k) a0) (fun k=>PQ k a0) h
def HB (call:FuncId→Fun) (a0:Int):Option (V×List Ob):=
 if(decide (a0≥(33:Int)))=true then
 if(decide (a0≤(126:Int)))=true then
 Option.bind (call 166 [(V.str [40,41,60,62,64,44,59,58,92,34,47,91,93,63,61]),(V.int .u8 a0)] []) fun z0=>
 some ((V.bool (!(getB z0.1))),[])
 else
 some ((V.bool false),[])
 else
 some ((V.bool false),[])
def JU (a0:Int):List V:=[V.int IntKind.u8 a0]
theorem PT (a0:Int):GO 153 Tryz.f153 (JU a0) [] call icall again=HB call a0:=by kernel_rfl
theorem PU (k:Nat) (a0:Int):aA cfg (k+1) 153 (JU a0) []=HB (aA cfg k) a0:=
 (show aA cfg (k+1) 153 (JU a0) []=GO 153 Tryz.f153 (JU a0) [] (aA cfg k) (aE cfg (aA cfg k) 20) (RN 153 Tryz.f153 [] (aA cfg k) (aE cfg (aA cfg k) 20) k)by kernel_rfl).trans (PT _ _ _ a0)
theorem PV (a0:Int) {r:V×List Ob} (h:Evt (fun k n=>HB (aA cfg k) a0) r):Ret 153 [V.int IntKind.u8 a0] [] r:=aS (g:=fun k n=>HB (aA cfg k) a0) (fun k=>PU k a0) h
def Gc (call:FuncId→Fun) (a0:List UInt8):Option (V×List Ob):=
 Option.bind (call 151 [(V.ref 0 0),(V.int .i64 0)] [(Ob.cells [(V.str a0)])]) fun z0=>
 if((getI z0.1)==(34:Int))=true then
 Option.bind (call 167 [(V.agg [(V.ref 0 0)])] [(Ob.cells [(V.str a0)])]) fun z1=>
 some ((V.tup [(V.str (getS (headD (getT z1.1) V.bot))),(V.bool (getB (headD (tail (getT z1.1)) V.bot)))]),[(Ob.cells [(V.str (getS (headD (Ob.getC (headD z1.2 Ob.dead)) V.bot)))])])
 else
 Option.bind (call 130 [(V.agg [(V.ref 0 0)])] [(Ob.cells [(V.str a0)])]) fun z1=>
 some ((V.tup [(V.str (getS z1.1)),(V.bool (!(sEq (getS z1.1) [])))]),[(Ob.cells [(V.str (getS (headD (Ob.getC (headD z1.2 Ob.dead)) V.bot)))])])
def HD (a0:List UInt8):List Ob:=[Ob.cells [V.str a0]]
def JV:List V:=[V.agg [V.ref 0 0]]
theorem PW (a0:List UInt8):GO 154 Tryz.f154 JV (HD a0) call icall again=Gc call a0:=by kernel_rfl
theorem PX (k:Nat) (a0:List UInt8):aA cfg (k+1) 154 JV (HD a0)=Gc (aA cfg k) a0:=
 (show aA cfg (k+1) 154 JV (HD a0)=GO 154 Tryz.f154 JV (HD a0) (aA cfg k) (aE cfg (aA cfg k) 20) (RN 154 Tryz.f154 (HD a0) (aA cfg k) (aE cfg (aA cfg k) 20) k)by kernel_rfl).trans (PW _ _ _ a0)
theorem NV (a0:List UInt8) {r:V×List Ob} (h:Evt (fun k n=>Gc (aA cfg k) a0) r):Ret 154 [V.agg [V.ref 0 0]] [Ob.cells [V.str a0]] r:=aS (g:=fun k n=>Gc (aA cfg k) a0) (fun k=>PX k a0) h
def Gd (call:FuncId→Fun) (a0:List UInt8) (a1:List UInt8):Option (V×List Ob):=
 Option.bind (call 168 [(V.str a0),(V.str a1)] []) fun z0=>
 if(decide ((getI z0.1)≥(0:Int)))=true then
 chk (decide (0≤(getI z0.1))) (chk (decide ((getI z0.1)≤((length a0:Nat):Int))) (chk (decide (0≤(0:Int))) (chk (decide ((0:Int)≤(getI z0.1))) (chk (decide (0≤(IntKind.wrap .i64 ((getI z0.1)+((length a1:Nat):Int))))) (chk (decide ((IntKind.wrap .i64 ((getI z0.1)+((length a1:Nat):Int)))≤((length a0:Nat):Int))) (some ((V.tup [(V.str (drop (Int.toNat (0:Int)) (take (Int.toNat (getI z0.1)) a0))),(V.str (drop (Int.toNat (IntKind.wrap .i64 ((getI z0.1)+((length a1:Nat):Int)))) a0)),(V.bool true)]),[])))))))
 else
 some ((V.tup [(V.str a0),(V.str []),(V.bool false)]),[])
def JW (a0:List UInt8) (a1:List UInt8):List V:=[V.str a0,V.str a1]
theorem PY (a0:List UInt8) (a1:List UInt8):GO 155 Tryz.f155 (JW a0 a1) [] call icall again=Gd call a0 a1:=by kernel_rfl
theorem PZ (k:Nat) (a0:List UInt8) (a1:List UInt8):aA cfg (k+1) 155 (JW a0 a1) []=Gd (aA cfg k) a0 a1:=
 (show aA cfg (k+1) 155 (JW a0 a1) []=GO 155 Tryz.f155 (JW a0 a1) [] (aA cfg k) (aE cfg (aA cfg k) 20) (RN 155 Tryz.f155 [] (aA cfg k) (aE cfg (aA cfg k) 20) k)by kernel_rfl).trans (PY _ _ _ a0 a1)
theorem NW (a0:List UInt8) (a1:List UInt8) {r:V×List Ob} (h:Evt (fun k n=>Gd (aA cfg k) a0 a1) r):Ret 155 [V.str a0,V.str a1] [] r:=aS (g:=fun k n=>Gd (aA cfg k) a0 a1) (fun k=>PZ k a0 a1) h
def yL (call:FuncId→Fun) (ag0:List UInt8→List V→Int→Int→Option (V×List Ob)) (s0:List UInt8) (l1:List V) (i2:Int) (i3:Int):Option (V×List Ob):=
 if(decide (i3<i2))=true then
 chk (decide (0≤i3)) (chk (decide (i3<((length l1:Nat):Int))) (if(sEq (getS (headD (V.cells (getD l1 (Int.toNat i3) V.bot)) V.bot)) s0)=true then
 some ((V.tup [(V.str (getS (headD (tail (V.cells (getD l1 (Int.toNat i3) V.bot))) V.bot))),(V.bool true)]),[])
 else
 (ag0 (s0) (l1) (i2) ((IntKind.wrap .i64 (i3+(1:Int)))))))
 else
 some ((V.tup [(V.str []),(V.bool false)]),[])
def HE (call:FuncId→Fun) (ag0:List UInt8→List V→Int→Int→Option (V×List Ob)) (a0:List V) (a1:List UInt8):Option (V×List Ob):=
 (ag0 (a1) (a0) (((length a0:Nat):Int)) ((0:Int)))
def JX (a0:List V) (a1:List UInt8):List V:=[V.lst 176 false a0,V.str a1]
def uE (s0:List UInt8) (l1:List V) (i2:Int) (i3:Int):St:=⟨[V.bot,(V.str s0),V.bot,V.bot,V.bot,V.bot,V.bot,V.bot,(V.lst 176 false l1),(V.int IntKind.i64 i2),(V.int IntKind.i64 i3)]++List.replicate 10 V.bot,[]⟩
theorem LX (s0:List UInt8) (l1:List V) (i2:Int) (i3:Int):
 RM 156 Tryz.f156 [] call icall again (aK Tryz.f156 0) (uE s0 l1 i2 i3)=yL call (fun s0 l1 i2 i3=>again (aK Tryz.f156 0) (uE s0 l1 i2 i3)) s0 l1 i2 i3:=by kernel_rfl
theorem P0 (a0:List V) (a1:List UInt8):GO 156 Tryz.f156 (JX a0 a1) [] call icall again=HE call (fun s0 l1 i2 i3=>again (aK Tryz.f156 0) (uE s0 l1 i2 i3)) a0 a1:=by kernel_rfl
def yM (call:FuncId→Fun):Nat→(List UInt8→List V→Int→Int→Option (V×List Ob))
 |0=>fun _ _ _ _=>none
 |n+1=>yL call (yM call n)
theorem NX (call:FuncId→Fun) (icall:aQ (V×List Ob)):∀n,(∀(s0:List UInt8) (l1:List V) (i2:Int) (i3:Int),RN 156 Tryz.f156 [] call icall n (aK Tryz.f156 0) (uE s0 l1 i2 i3)=(yM call n) s0 l1 i2 i3)
 |0=>fun s0 l1 i2 i3=>rfl
 |n+1=>by
  have ih:=NX call icall n
  exact fun s0 l1 i2 i3=>(LX call icall (RN 156 Tryz.f156 [] call icall n) s0 l1 i2 i3).trans (by rw[show(fun s0 l1 i2 i3=>RN 156 Tryz.f156 [] call icall n (aK Tryz.f156 0) (uE s0 l1 i2 i3))=(yM call n)from(funext fun s0=>funext fun l1=>funext fun i2=>funext fun i3=>ih s0 l1 i2 i3)];rfl)
theorem P1 (k:Nat) (a0:List V) (a1:List UInt8):aA cfg (k+1) 156 (JX a0 a1) []=HE (aA cfg k) (yM (aA cfg k) k) a0 a1:=by
 have ih:=NX (aA cfg k) (aE cfg (aA cfg k) 20) k
 refine(show aA cfg (k+1) 156 (JX a0 a1) []=GO 156 Tryz.f156 (JX a0 a1) [] (aA cfg k) (aE cfg (aA cfg k) 20) (RN 156 Tryz.f156 [] (aA cfg k) (aE cfg (aA cfg k) 20) k)by kernel_rfl).trans ((P0 _ _ _ a0 a1).trans ?_)
 rw[show(fun s0 l1 i2 i3=>RN 156 Tryz.f156 [] (aA cfg k) (aE cfg (aA cfg k) 20) k (aK Tryz.f156 0) (uE s0 l1 i2 i3))=(yM (aA cfg k) k)from(funext fun s0=>funext fun l1=>funext fun i2=>funext fun i3=>ih s0 l1 i2 i3)]
theorem P2 (a0:List V) (a1:List UInt8) {r:V×List Ob} (h:Evt (fun k n=>HE (aA cfg k) (yM (aA cfg k) n) a0 a1) r):Ret 156 [V.lst 176 false a0,V.str a1] [] r:=aS (g:=fun k n=>HE (aA cfg k) (yM (aA cfg k) n) a0 a1) (fun k=>P1 k a0 a1) h
theorem HG (s0:List UInt8) (l1:List V) (i2:Int) (i3:Int) {r:V×List Ob} (h:Evt (fun k n=>yL (aA cfg k) (yM (aA cfg k) n) s0 l1 i2 i3) r):Evt (fun k n=>(yM (aA cfg k) n) s0 l1 i2 i3) r:=aV (fun k n=>rfl) h
def rI (call:FuncId→Fun) (ag0:List UInt8→List V→Int→Option (V×List Ob)) (s0:List UInt8) (l1:List V) (i2:Int):Option (V×List Ob):=
 if(decide (i2<((length s0:Nat):Int)))=true then
 Option.bind (chk (decide (0≤i2)) (chk (decide (i2<((length s0:Nat):Int))) (if(((UInt8.toNat (getD s0 (Int.toNat i2) 0):Nat):Int)==(37:Int))=true then
 some (decide ((IntKind.wrap .i64 (i2+(2:Int)))<((length s0:Nat):Int)))
 else
 some false))) fun y0=>
 if y0=true then
 chk (decide (0≤(IntKind.wrap .i64 (i2+(1:Int))))) (chk (decide ((IntKind.wrap .i64 (i2+(1:Int)))<((length s0:Nat):Int))) (Option.bind (call 169 [(V.int .u8 ((UInt8.toNat (getD s0 (Int.toNat (IntKind.wrap .i64 (i2+(1:Int)))) 0):Nat):Int))] []) fun z1=>
 chk (decide (0≤(IntKind.wrap .i64 (i2+(2:Int))))) (chk (decide ((IntKind.wrap .i64 (i2+(2:Int)))<((length s0:Nat):Int))) (Option.bind (call 169 [(V.int .u8 ((UInt8.toNat (getD s0 (Int.toNat (IntKind.wrap .i64 (i2+(2:Int)))) 0):Nat):Int))] []) fun z2=>
 Option.bind (if(getB (headD (tail (getT z1.1)) V.bot))=true then
 some (getB (headD (tail (getT z2.1)) V.bot))
 else
 some false) fun y3=>
 if y3=true then
 chk (decide (0≤(4:Int))) (chk (bI l1 [(V.int .u8 (bits BinOp.or .u8 (IntKind.wrap .u8 ((getI (headD (getT z1.1) V.bot))*2 ^ min (Int.toNat (4:Int)) (IntKind.bits .u8))) (getI (headD (getT z2.1) V.bot))))] 2) ((ag0 (s0) ((l1++[(V.int .u8 (bits BinOp.or .u8 (IntKind.wrap .u8 ((getI (headD (getT z1.1) V.bot))*2 ^ min (Int.toNat (4:Int)) (IntKind.bits .u8))) (getI (headD (getT z2.1) V.bot))))])) ((IntKind.wrap .i64 ((IntKind.wrap .i64 (i2+(2:Int)))+(1:Int)))))))
 else
 chk (decide (0≤i2)) (chk (decide (i2<((length s0:Nat):Int))) (chk (bI l1 [(V.int .u8 ((UInt8.toNat (getD s0 (Int.toNat i2) 0):Nat):Int))] 2) ((ag0 (s0) ((l1++[(V.int .u8 ((UInt8.toNat (getD s0 (Int.toNat i2) 0):Nat):Int))])) ((IntKind.wrap .i64 (i2+(1:Int))))))))))))
 else
 chk (decide (0≤i2)) (chk (decide (i2<((length s0:Nat):Int))) (chk (bI l1 [(V.int .u8 ((UInt8.toNat (getD s0 (Int.toNat i2) 0):Nat):Int))] 2) ((ag0 (s0) ((l1++[(V.int .u8 ((UInt8.toNat (getD s0 (Int.toNat i2) 0):Nat):Int))])) ((IntKind.wrap .i64 (i2+(1:Int))))))))
 else
 some ((V.str (bytesOf l1)),[])
def HH (call:FuncId→Fun) (ag0:List UInt8→List V→Int→Option (V×List Ob)) (a0:List UInt8):Option (V×List Ob):=
 (ag0 (a0) ([]) ((0:Int)))
def JY (a0:List UInt8):List V:=[V.str a0]
def uF (s0:List UInt8) (l1:List V) (i2:Int):St:=⟨[(V.str s0),V.bot,V.bot,(V.lst 5 true l1),(V.int IntKind.i64 i2)]++List.replicate 58 V.bot,[]⟩
theorem LY (s0:List UInt8) (l1:List V) (i2:Int):
 RM 157 Tryz.f157 [] call icall again (aK Tryz.f157 0) (uF s0 l1 i2)=rI call (fun s0 l1 i2=>again (aK Tryz.f157 0) (uF s0 l1 i2)) s0 l1 i2:=by kernel_rfl
theorem P3 (a0:List UInt8):GO 157 Tryz.f157 (JY a0) [] call icall again=HH call (fun s0 l1 i2=>again (aK Tryz.f157 0) (uF s0 l1 i2)) a0:=by kernel_rfl
def wG (call:FuncId→Fun):Nat→(List UInt8→List V→Int→Option (V×List Ob))
 |0=>fun _ _ _=>none
 |n+1=>rI call (wG call n)
theorem NY (call:FuncId→Fun) (icall:aQ (V×List Ob)):∀n,(∀(s0:List UInt8) (l1:List V) (i2:Int),RN 157 Tryz.f157 [] call icall n (aK Tryz.f157 0) (uF s0 l1 i2)=(wG call n) s0 l1 i2)
 |0=>fun s0 l1 i2=>rfl
 |n+1=>by
  have ih:=NY call icall n
  exact fun s0 l1 i2=>(LY call icall (RN 157 Tryz.f157 [] call icall n) s0 l1 i2).trans (by rw[show(fun s0 l1 i2=>RN 157 Tryz.f157 [] call icall n (aK Tryz.f157 0) (uF s0 l1 i2))=(wG call n)from(funext fun s0=>funext fun l1=>funext fun i2=>ih s0 l1 i2)];rfl)
theorem P4 (k:Nat) (a0:List UInt8):aA cfg (k+1) 157 (JY a0) []=HH (aA cfg k) (wG (aA cfg k) k) a0:=by
 have ih:=NY (aA cfg k) (aE cfg (aA cfg k) 20) k
 refine(show aA cfg (k+1) 157 (JY a0) []=GO 157 Tryz.f157 (JY a0) [] (aA cfg k) (aE cfg (aA cfg k) 20) (RN 157 Tryz.f157 [] (aA cfg k) (aE cfg (aA cfg k) 20) k)by kernel_rfl).trans ((P3 _ _ _ a0).trans ?_)
 rw[show(fun s0 l1 i2=>RN 157 Tryz.f157 [] (aA cfg k) (aE cfg (aA cfg k) 20) k (aK Tryz.f157 0) (uF s0 l1 i2))=(wG (aA cfg k) k)from(funext fun s0=>funext fun l1=>funext fun i2=>ih s0 l1 i2)]
theorem P5 (a0:List UInt8) {r:V×List Ob} (h:Evt (fun k n=>HH (aA cfg k) (wG (aA cfg k) n) a0) r):Ret 157 [V.str a0] [] r:=aS (g:=fun k n=>HH (aA cfg k) (wG (aA cfg k) n) a0) (fun k=>P4 k a0) h
theorem HI (s0:List UInt8) (l1:List V) (i2:Int) {r:V×List Ob} (h:Evt (fun k n=>rI (aA cfg k) (wG (aA cfg k) n) s0 l1 i2) r):Evt (fun k n=>(wG (aA cfg k) n) s0 l1 i2) r:=aV (fun k n=>rfl) h
def HJ (call:FuncId→Fun) (a0:List UInt8):Option (V×List Ob):=
 Option.bind (call 170 [(V.str a0),(V.str [39]),(V.int .i64 3)] []) fun z0=>
 if(decide (((length (getL z0.1):Nat):Int)<(3:Int)))=true then
 some ((V.str a0),[])
 else
 chk (decide (0≤(2:Int))) (chk (decide ((2:Int)<((length (getL z0.1):Nat):Int))) (some ((V.str (getS (getD (getL z0.1) (Int.toNat (2:Int)) V.bot))),[])))
def JZ (a0:List UInt8):List V:=[V.str a0]
theorem P6 (a0:List UInt8):GO 158 Tryz.f158 (JZ a0) [] call icall again=HJ call a0:=by kernel_rfl
theorem P7 (k:Nat) (a0:List UInt8):aA cfg (k+1) 158 (JZ a0) []=HJ (aA cfg k) a0:=
 (show aA cfg (k+1) 158 (JZ a0) []=GO 158 Tryz.f158 (JZ a0) [] (aA cfg k) (aE cfg (aA cfg k) 20) (RN 158 Tryz.f158 [] (aA cfg k) (aE cfg (aA cfg k) 20) k)by kernel_rfl).trans (P6 _ _ _ a0)
theorem P8 (a0:List UInt8) {r:V×List Ob} (h:Evt (fun k n=>HJ (aA cfg k) a0) r):Ret 158 [V.str a0] [] r:=aS (g:=fun k n=>HJ (aA cfg k) a0) (fun k=>P7 k a0) h
def BV (call:FuncId→Fun) (ag0:List V→List UInt8→List UInt8→Int→Option (V×List Ob)) (l0:List V) (s1:List UInt8) (s2:List UInt8) (i3:Int):Option (V×List Ob):=
 chk (dS s1 [42]) (Option.bind (call 47 [(V.int .i64 i3)] []) fun z0=>
 chk (dS (s1++[42]) (getS z0.1)) (Option.bind (call 156 [(V.lst 176 false l0),(V.str ((s1++[42])++(getS z0.1)))] []) fun z1=>
 if(!(getB (headD (tail (getT z1.1)) V.bot)))=true then
 chk (dS ((s1++[42])++(getS z0.1)) [42]) (Option.bind (call 156 [(V.lst 176 false l0),(V.str (((s1++[42])++(getS z0.1))++[42]))] []) fun z2=>
 if(!(getB (headD (tail (getT z2.1)) V.bot)))=true then
 some ((V.tup [(V.str s2),(V.bool (decide (i3>(0:Int))))]),[])
 else
 if(i3==(0:Int))=true then
 Option.bind (call 158 [(V.str (getS (headD (getT z2.1) V.bot)))] []) fun z3=>
 Option.bind (call 157 [(V.str (getS z3.1))] []) fun z4=>
 chk (dS s2 (getS z4.1)) ((ag0 (l0) (s1) ((s2++(getS z4.1))) ((IntKind.wrap .i64 (i3+(1:Int))))))
 else
 Option.bind (call 157 [(V.str (getS (headD (getT z2.1) V.bot)))] []) fun z3=>
 chk (dS s2 (getS z3.1)) ((ag0 (l0) (s1) ((s2++(getS z3.1))) ((IntKind.wrap .i64 (i3+(1:Int)))))))
 else
 chk (dS s2 (getS (headD (getT z1.1) V.bot))) ((ag0 (l0) (s1) ((s2++(getS (headD (getT z1.1) V.bot)))) ((IntKind.wrap .i64 (i3+(1:Int))))))))
def HK (call:FuncId→Fun) (ag0:List V→List UInt8→List UInt8→Int→Option (V×List Ob)) (a0:List V) (a1:List UInt8):Option (V×List Ob):=
 (ag0 (a0) (a1) ([]) ((0:Int)))
def J0 (a0:List V) (a1:List UInt8):List V:=[V.lst 176 false a0,V.str a1]
def uG (l0:List V) (s1:List UInt8) (s2:List UInt8) (i3:Int):St:=⟨[(V.lst 176 false l0),(V.str s1),V.bot,V.bot,V.bot,V.bot,(V.str s2),(V.int IntKind.i64 i3)]++List.replicate 39 V.bot,[]⟩
theorem LZ (l0:List V) (s1:List UInt8) (s2:List UInt8) (i3:Int):
 RM 159 Tryz.f159 [] call icall again (aK Tryz.f159 0) (uG l0 s1 s2 i3)=BV call (fun l0 s1 s2 i3=>again (aK Tryz.f159 0) (uG l0 s1 s2 i3)) l0 s1 s2 i3:=by kernel_rfl
theorem P9 (a0:List V) (a1:List UInt8):GO 159 Tryz.f159 (J0 a0 a1) [] call icall again=HK call (fun l0 s1 s2 i3=>again (aK Tryz.f159 0) (uG l0 s1 s2 i3)) a0 a1:=by kernel_rfl
def yN (call:FuncId→Fun):Nat→(List V→List UInt8→List UInt8→Int→Option (V×List Ob))
 |0=>fun _ _ _ _=>none
 |n+1=>BV call (yN call n)
theorem NZ (call:FuncId→Fun) (icall:aQ (V×List Ob)):∀n,(∀(l0:List V) (s1:List UInt8) (s2:List UInt8) (i3:Int),RN 159 Tryz.f159 [] call icall n (aK Tryz.f159 0) (uG l0 s1 s2 i3)=(yN call n) l0 s1 s2 i3)
 |0=>fun l0 s1 s2 i3=>rfl
 |n+1=>by
  have ih:=NZ call icall n
  exact fun l0 s1 s2 i3=>(LZ call icall (RN 159 Tryz.f159 [] call icall n) l0 s1 s2 i3).trans (by rw[show(fun l0 s1 s2 i3=>RN 159 Tryz.f159 [] call icall n (aK Tryz.f159 0) (uG l0 s1 s2 i3))=(yN call n)from(funext fun l0=>funext fun s1=>funext fun s2=>funext fun i3=>ih l0 s1 s2 i3)];rfl)
theorem Qa (k:Nat) (a0:List V) (a1:List UInt8):aA cfg (k+1) 159 (J0 a0 a1) []=HK (aA cfg k) (yN (aA cfg k) k) a0 a1:=by
 have ih:=NZ (aA cfg k) (aE cfg (aA cfg k) 20) k
 refine(show aA cfg (k+1) 159 (J0 a0 a1) []=GO 159 Tryz.f159 (J0 a0 a1) [] (aA cfg k) (aE cfg (aA cfg k) 20) (RN 159 Tryz.f159 [] (aA cfg k) (aE cfg (aA cfg k) 20) k)by kernel_rfl).trans ((P9 _ _ _ a0 a1).trans ?_)
 rw[show(fun l0 s1 s2 i3=>RN 159 Tryz.f159 [] (aA cfg k) (aE cfg (aA cfg k) 20) k (aK Tryz.f159 0) (uG l0 s1 s2 i3))=(yN (aA cfg k) k)from(funext fun l0=>funext fun s1=>funext fun s2=>funext fun i3=>ih l0 s1 s2 i3)]
theorem Qb (a0:List V) (a1:List UInt8) {r:V×List Ob} (h:Evt (fun k n=>HK (aA cfg k) (yN (aA cfg k) n) a0 a1) r):Ret 159 [V.lst 176 false a0,V.str a1] [] r:=aS (g:=fun k n=>HK (aA cfg k) (yN (aA cfg k) n) a0 a1) (fun k=>Qa k a0 a1) h
theorem L0 (l0:List V) (s1:List UInt8) (s2:List UInt8) (i3:Int) {r:V×List Ob} (h:Evt (fun k n=>BV (aA cfg k) (yN (aA cfg k) n) l0 s1 s2 i3) r):Evt (fun k n=>(yN (aA cfg k) n) l0 s1 s2 i3) r:=aV (fun k n=>rfl) h
def yO (call:FuncId→Fun) (ag0:Int→List UInt8→Int→Option (V×List Ob)) (i0:Int) (s1:List UInt8) (p2:Int):Option (V×List Ob):=
 if Int.toNat p2<length s1 then
 if((((Utf8.decode ⟨List.toArray s1⟩ (Int.toNat p2)).1:Nat):Int)==(IntKind.wrap IntKind.i32 i0))=true then
 some ((V.bool true),[])
 else
 (ag0 (i0) (s1) (((Int.toNat p2+(Utf8.decode ⟨List.toArray s1⟩ (Int.toNat p2)).2:Nat):Int)))
 else
 some ((V.bool false),[])
def HL (call:FuncId→Fun) (ag0:Int→List UInt8→Int→Option (V×List Ob)) (a0:List UInt8) (a1:Int):Option (V×List Ob):=
 (ag0 (a1) (a0) ((0:Int)))
def J1 (a0:List UInt8) (a1:Int):List V:=[V.str a0,V.int IntKind.u8 a1]
def uH (i0:Int) (s1:List UInt8) (p2:Int):St:=⟨[V.bot,(V.int IntKind.u8 i0),V.bot,V.bot,V.bot,V.bot,V.bot,V.bot,(V.ref 0 0)]++List.replicate 7 V.bot,[(Ob.sit s1 p2)]⟩
theorem L1 (i0:Int) (s1:List UInt8) (p2:Int):
 RM 166 Tryz.f166 [] call icall again (aK Tryz.f166 0) (uH i0 s1 p2)=yO call (fun i0 s1 p2=>again (aK Tryz.f166 0) (uH i0 s1 p2)) i0 s1 p2:=by kernel_rfl
theorem Qc (a0:List UInt8) (a1:Int):GO 166 Tryz.f166 (J1 a0 a1) [] call icall again=HL call (fun i0 s1 p2=>again (aK Tryz.f166 0) (uH i0 s1 p2)) a0 a1:=by kernel_rfl
def Al (call:FuncId→Fun):Nat→(Int→List UInt8→Int→Option (V×List Ob))
 |0=>fun _ _ _=>none
 |n+1=>yO call (Al call n)
theorem N1 (call:FuncId→Fun) (icall:aQ (V×List Ob)):∀n,(∀(i0:Int) (s1:List UInt8) (p2:Int),RN 166 Tryz.f166 [] call icall n (aK Tryz.f166 0) (uH i0 s1 p2)=(Al call n) i0 s1 p2)
 |0=>fun i0 s1 p2=>rfl
 |n+1=>by
  have ih:=N1 call icall n
  exact fun i0 s1 p2=>(L1 call icall (RN 166 Tryz.f166 [] call icall n) i0 s1 p2).trans (by rw[show(fun i0 s1 p2=>RN 166 Tryz.f166 [] call icall n (aK Tryz.f166 0) (uH i0 s1 p2))=(Al call n)from(funext fun i0=>funext fun s1=>funext fun p2=>ih i0 s1 p2)];rfl)
theorem Qd (k:Nat) (a0:List UInt8) (a1:Int):aA cfg (k+1) 166 (J1 a0 a1) []=HL (aA cfg k) (Al (aA cfg k) k) a0 a1:=by
 have ih:=N1 (aA cfg k) (aE cfg (aA cfg k) 20) k
 refine(show aA cfg (k+1) 166 (J1 a0 a1) []=GO 166 Tryz.f166 (J1 a0 a1) [] (aA cfg k) (aE cfg (aA cfg k) 20) (RN 166 Tryz.f166 [] (aA cfg k) (aE cfg (aA cfg k) 20) k)by kernel_rfl).trans ((Qc _ _ _ a0 a1).trans ?_)
 rw[show(fun i0 s1 p2=>RN 166 Tryz.f166 [] (aA cfg k) (aE cfg (aA cfg k) 20) k (aK Tryz.f166 0) (uH i0 s1 p2))=(Al (aA cfg k) k)from(funext fun i0=>funext fun s1=>funext fun p2=>ih i0 s1 p2)]
theorem Qe (a0:List UInt8) (a1:Int) {r:V×List Ob} (h:Evt (fun k n=>HL (aA cfg k) (Al (aA cfg k) n) a0 a1) r):Ret 166 [V.str a0,V.int IntKind.u8 a1] [] r:=aS (g:=fun k n=>HL (aA cfg k) (Al (aA cfg k) n) a0 a1) (fun k=>Qd k a0 a1) h
theorem HM (i0:Int) (s1:List UInt8) (p2:Int) {r:V×List Ob} (h:Evt (fun k n=>yO (aA cfg k) (Al (aA cfg k) n) i0 s1 p2) r):Evt (fun k n=>(Al (aA cfg k) n) i0 s1 p2) r:=aV (fun k n=>rfl) h
def oL (call:FuncId→Fun) (ag0:List V→Int→List UInt8→Option (V×List Ob)) (l0:List V) (i1:Int) (s2:List UInt8):Option (V×List Ob):=
 if(decide (i1<((length s2:Nat):Int)))=true then
 chk (decide (0≤i1)) (chk (decide (i1<((length s2:Nat):Int))) (if(((UInt8.toNat (getD s2 (Int.toNat i1) 0):Nat):Int)==(34:Int))=true then
 chk (decide (0≤(IntKind.wrap .i64 (i1+(1:Int))))) (chk (decide ((IntKind.wrap .i64 (i1+(1:Int)))≤((length s2:Nat):Int))) (some ((V.tup [(V.str (bytesOf l0)),(V.bool true)]),[(Ob.cells [(V.str (drop (Int.toNat (IntKind.wrap .i64 (i1+(1:Int)))) s2))])])))
 else
 if(((UInt8.toNat (getD s2 (Int.toNat i1) 0):Nat):Int)==(92:Int))=true then
 if(decide ((IntKind.wrap .i64 (i1+(1:Int)))<((length s2:Nat):Int)))=true then
 chk (decide (0≤(IntKind.wrap .i64 (i1+(1:Int))))) (chk (decide ((IntKind.wrap .i64 (i1+(1:Int)))<((length s2:Nat):Int))) (chk (bI l0 [(V.int .u8 ((UInt8.toNat (getD s2 (Int.toNat (IntKind.wrap .i64 (i1+(1:Int)))) 0):Nat):Int))] 2) ((ag0 ((l0++[(V.int .u8 ((UInt8.toNat (getD s2 (Int.toNat (IntKind.wrap .i64 (i1+(1:Int)))) 0):Nat):Int))])) ((IntKind.wrap .i64 ((IntKind.wrap .i64 (i1+(1:Int)))+(1:Int)))) (s2)))))
 else
 (ag0 (l0) ((IntKind.wrap .i64 ((IntKind.wrap .i64 (i1+(1:Int)))+(1:Int)))) (s2))
 else
 chk (bI l0 [(V.int .u8 ((UInt8.toNat (getD s2 (Int.toNat i1) 0):Nat):Int))] 2) ((ag0 ((l0++[(V.int .u8 ((UInt8.toNat (getD s2 (Int.toNat i1) 0):Nat):Int))])) ((IntKind.wrap .i64 (i1+(1:Int)))) (s2)))))
 else
 some ((V.tup [(V.str []),(V.bool false)]),[(Ob.cells [(V.str s2)])])
def HN (call:FuncId→Fun) (ag0:List V→Int→List UInt8→Option (V×List Ob)) (a0:List UInt8):Option (V×List Ob):=
 (ag0 ([]) ((1:Int)) (a0))
def Am (a0:List UInt8):List Ob:=[Ob.cells [V.str a0]]
def J2:List V:=[V.agg [V.ref 0 0]]
def uI (l0:List V) (i1:Int) (s2:List UInt8):St:=⟨[V.bot,(V.ref 1 0),V.bot,V.bot,(V.lst 5 true l0),(V.int IntKind.i64 i1)]++List.replicate 61 V.bot,[(Ob.cells [(V.str s2)]),(Ob.cells [(V.ref 0 0)])]⟩
theorem L2 (a0:List UInt8) (l0:List V) (i1:Int) (s2:List UInt8):
 RM 167 Tryz.f167 (Am a0) call icall again (aK Tryz.f167 0) (uI l0 i1 s2)=oL call (fun l0 i1 s2=>again (aK Tryz.f167 0) (uI l0 i1 s2)) l0 i1 s2:=by kernel_rfl
theorem Qf (a0:List UInt8):GO 167 Tryz.f167 J2 (Am a0) call icall again=HN call (fun l0 i1 s2=>again (aK Tryz.f167 0) (uI l0 i1 s2)) a0:=by kernel_rfl
def yP (call:FuncId→Fun):Nat→(List V→Int→List UInt8→Option (V×List Ob))
 |0=>fun _ _ _=>none
 |n+1=>oL call (yP call n)
theorem N2 (call:FuncId→Fun) (icall:aQ (V×List Ob)) (a0:List UInt8):∀n,(∀(l0:List V) (i1:Int) (s2:List UInt8),RN 167 Tryz.f167 (Am a0) call icall n (aK Tryz.f167 0) (uI l0 i1 s2)=(yP call n) l0 i1 s2)
 |0=>fun l0 i1 s2=>rfl
 |n+1=>by
  have ih:=N2 call icall a0 n
  exact fun l0 i1 s2=>(L2 call icall (RN 167 Tryz.f167 (Am a0) call icall n) a0 l0 i1 s2).trans (by rw[show(fun l0 i1 s2=>RN 167 Tryz.f167 (Am a0) call icall n (aK Tryz.f167 0) (uI l0 i1 s2))=(yP call n)from(funext fun l0=>funext fun i1=>funext fun s2=>ih l0 i1 s2)];rfl)
theorem Qg (k:Nat) (a0:List UInt8):aA cfg (k+1) 167 J2 (Am a0)=HN (aA cfg k) (yP (aA cfg k) k) a0:=by
 have ih:=N2 (aA cfg k) (aE cfg (aA cfg k) 20) a0 k
 refine(show aA cfg (k+1) 167 J2 (Am a0)=GO 167 Tryz.f167 J2 (Am a0) (aA cfg k) (aE cfg (aA cfg k) 20) (RN 167 Tryz.f167 (Am a0) (aA cfg k) (aE cfg (aA cfg k) 20) k)by kernel_rfl).trans ((Qf _ _ _ a0).trans ?_)
 rw[show(fun l0 i1 s2=>RN 167 Tryz.f167 (Am a0) (aA cfg k) (aE cfg (aA cfg k) 20) k (aK Tryz.f167 0) (uI l0 i1 s2))=(yP (aA cfg k) k)from(funext fun l0=>funext fun i1=>funext fun s2=>ih l0 i1 s2)]
theorem Qh (a0:List UInt8) {r:V×List Ob} (h:Evt (fun k n=>HN (aA cfg k) (yP (aA cfg k) n) a0) r):Ret 167 [V.agg [V.ref 0 0]] [Ob.cells [V.str a0]] r:=aS (g:=fun k n=>HN (aA cfg k) (yP (aA cfg k) n) a0) (fun k=>Qg k a0) h
theorem yQ (l0:List V) (i1:Int) (s2:List UInt8) {r:V×List Ob} (h:Evt (fun k n=>oL (aA cfg k) (yP (aA cfg k) n) l0 i1 s2) r):Evt (fun k n=>(yP (aA cfg k) n) l0 i1 s2) r:=aV (fun k n=>rfl) h
def HO (call:FuncId→Fun) (a0:Int):Option (V×List Ob):=
 Option.bind (call 111 [(V.int .u8 a0)] []) fun z0=>
 Option.bind (if(decide ((getI z0.1)≥(48:Int)))=true then
 some (decide ((getI z0.1)≤(57:Int)))
 else
 some false) fun y1=>
 if y1=true then
 some ((V.tup [(V.int .u8 (IntKind.wrap .u8 ((getI z0.1) - (48:Int)))),(V.bool true)]),[])
 else
 Option.bind (if(decide ((getI z0.1)≥(97:Int)))=true then
 some (decide ((getI z0.1)≤(102:Int)))
 else
 some false) fun y2=>
 if y2=true then
 some ((V.tup [(V.int .u8 (IntKind.wrap .u8 ((IntKind.wrap .u8 ((getI z0.1) - (97:Int)))+(10:Int)))),(V.bool true)]),[])
 else
 some ((V.tup [(V.int .u8 0),(V.bool false)]),[])
def J3 (a0:Int):List V:=[V.int IntKind.u8 a0]
theorem Qi (a0:Int):GO 169 Tryz.f169 (J3 a0) [] call icall again=HO call a0:=by kernel_rfl
theorem Qj (k:Nat) (a0:Int):aA cfg (k+1) 169 (J3 a0) []=HO (aA cfg k) a0:=
 (show aA cfg (k+1) 169 (J3 a0) []=GO 169 Tryz.f169 (J3 a0) [] (aA cfg k) (aE cfg (aA cfg k) 20) (RN 169 Tryz.f169 [] (aA cfg k) (aE cfg (aA cfg k) 20) k)by kernel_rfl).trans (Qi _ _ _ a0)
theorem Qk (a0:Int) {r:V×List Ob} (h:Evt (fun k n=>HO (aA cfg k) a0) r):Ret 169 [V.int IntKind.u8 a0] [] r:=aS (g:=fun k n=>HO (aA cfg k) a0) (fun k=>Qj k a0) h
def Di (call:FuncId→Fun) (ag0:Int→List UInt8→Bool→Option (V×List Ob)) (i0:Int) (s1:List UInt8) (b2:Bool):Option (V×List Ob):=
 if(i0 != (0:Int))=true then
 chk ((10:Int) != 0) (chk (dS ((Utf8.encode (IntKind.wrap IntKind.i32 (IntKind.wrap .i64 ((48:Int)+(if(IntKind.wrap .i64 ((0:Int) - (Int.tmod i0 (10:Int))))>(Int.tmod i0 (10:Int))then(IntKind.wrap .i64 ((0:Int) - (Int.tmod i0 (10:Int))))else(Int.tmod i0 (10:Int))))))).data.toList) s1) (chk ((10:Int) != 0) ((ag0 ((IntKind.wrap .i64 (Int.tdiv i0 (10:Int)))) ((((Utf8.encode (IntKind.wrap IntKind.i32 (IntKind.wrap .i64 ((48:Int)+(if(IntKind.wrap .i64 ((0:Int) - (Int.tmod i0 (10:Int))))>(Int.tmod i0 (10:Int))then(IntKind.wrap .i64 ((0:Int) - (Int.tmod i0 (10:Int))))else(Int.tmod i0 (10:Int))))))).data.toList)++s1)) (b2)))))
 else
 if b2=true then
 chk (dS [45] s1) (some ((V.str ([45]++s1)),[]))
 else
 some ((V.str s1),[])
def T47 (call:FuncId→Fun) (ag0:Int→List UInt8→Bool→Option (V×List Ob)) (a0:Int):Option (V×List Ob):=
 if(a0==(0:Int))=true then
 some ((V.str [48]),[])
 else
 (ag0 (a0) ([]) ((decide (a0<(0:Int)))))
def A47 (a0:Int):List V:=[V.int IntKind.i64 a0]
def A0 (i0:Int) (s1:List UInt8) (b2:Bool):St:=⟨[(V.int IntKind.i64 i0),V.bot,V.bot,(V.str s1),(V.bool b2)]++List.replicate 24 V.bot,[]⟩
theorem N3 (i0:Int) (s1:List UInt8) (b2:Bool):
 RM 47 Tryz.f47 [] call icall again (aK Tryz.f47 0) (A0 i0 s1 b2)=Di call (fun i0 s1 b2=>again (aK Tryz.f47 0) (A0 i0 s1 b2)) i0 s1 b2:=by kernel_rfl
theorem E47 (a0:Int):GO 47 Tryz.f47 (A47 a0) [] call icall again=T47 call (fun i0 s1 b2=>again (aK Tryz.f47 0) (A0 i0 s1 b2)) a0:=by kernel_rfl
def L47 (call:FuncId→Fun):Nat→(Int→List UInt8→Bool→Option (V×List Ob))
 |0=>fun _ _ _=>none
 |n+1=>Di call (L47 call n)
theorem R47 (call:FuncId→Fun) (icall:aQ (V×List Ob)):∀n,(∀(i0:Int) (s1:List UInt8) (b2:Bool),RN 47 Tryz.f47 [] call icall n (aK Tryz.f47 0) (A0 i0 s1 b2)=(L47 call n) i0 s1 b2)
 |0=>fun i0 s1 b2=>rfl
 |n+1=>by
  have ih:=R47 call icall n
  exact fun i0 s1 b2=>(N3 call icall (RN 47 Tryz.f47 [] call icall n) i0 s1 b2).trans (by rw[show(fun i0 s1 b2=>RN 47 Tryz.f47 [] call icall n (aK Tryz.f47 0) (A0 i0 s1 b2))=(L47 call n)from(funext fun i0=>funext fun s1=>funext fun b2=>ih i0 s1 b2)];rfl)
theorem C47 (k:Nat) (a0:Int):aA cfg (k+1) 47 (A47 a0) []=T47 (aA cfg k) (L47 (aA cfg k) k) a0:=by
 have ih:=R47 (aA cfg k) (aE cfg (aA cfg k) 20) k
 refine(show aA cfg (k+1) 47 (A47 a0) []=GO 47 Tryz.f47 (A47 a0) [] (aA cfg k) (aE cfg (aA cfg k) 20) (RN 47 Tryz.f47 [] (aA cfg k) (aE cfg (aA cfg k) 20) k)by kernel_rfl).trans ((E47 _ _ _ a0).trans ?_)
 rw[show(fun i0 s1 b2=>RN 47 Tryz.f47 [] (aA cfg k) (aE cfg (aA cfg k) 20) k (aK Tryz.f47 0) (A0 i0 s1 b2))=(L47 (aA cfg k) k)from(funext fun i0=>funext fun s1=>funext fun b2=>ih i0 s1 b2)]
theorem M47 (a0:Int) {r:V×List Ob} (h:Evt (fun k n=>T47 (aA cfg k) (L47 (aA cfg k) n) a0) r):Ret 47 [V.int IntKind.i64 a0] [] r:=aS (g:=fun k n=>T47 (aA cfg k) (L47 (aA cfg k) n) a0) (fun k=>C47 k a0) h
theorem K5 (i0:Int) (s1:List UInt8) (b2:Bool) {r:V×List Ob} (h:Evt (fun k n=>Di (aA cfg k) (L47 (aA cfg k) n) i0 s1 b2) r):Evt (fun k n=>(L47 (aA cfg k) n) i0 s1 b2) r:=aV (fun k n=>rfl) h
def yR (call:FuncId→Fun) (ag0:List UInt8→Option (V×List Ob)) (ag1:List UInt8→Option (V×List Ob)) (s0:List UInt8):Option (V×List Ob):=
 if(decide (((length s0:Nat):Int)>(0:Int)))=true then
 chk (decide (0≤(0:Int))) (chk (decide ((0:Int)<((length s0:Nat):Int))) (Option.bind (call 104 [(V.int .u8 ((UInt8.toNat (getD s0 (Int.toNat (0:Int)) 0):Nat):Int))] []) fun z0=>
 if(getB z0.1)=true then
 chk (decide (0≤(1:Int))) (chk (decide ((1:Int)≤((length s0:Nat):Int))) ((ag0 ((drop (Int.toNat (1:Int)) s0)))))
 else
 (ag1 (s0))))
 else
 (ag1 (s0))
def yS (call:FuncId→Fun) (ag0:List UInt8→Option (V×List Ob)) (ag1:List UInt8→Option (V×List Ob)) (s0:List UInt8):Option (V×List Ob):=
 if(decide (((length s0:Nat):Int)>(0:Int)))=true then
 chk (decide (0≤(IntKind.wrap .i64 (((length s0:Nat):Int) - (1:Int))))) (chk (decide ((IntKind.wrap .i64 (((length s0:Nat):Int) - (1:Int)))<((length s0:Nat):Int))) (Option.bind (call 104 [(V.int .u8 ((UInt8.toNat (getD s0 (Int.toNat (IntKind.wrap .i64 (((length s0:Nat):Int) - (1:Int)))) 0):Nat):Int))] []) fun z0=>
 if(getB z0.1)=true then
 chk (decide (0≤(IntKind.wrap .i64 (((length s0:Nat):Int) - (1:Int))))) (chk (decide ((IntKind.wrap .i64 (((length s0:Nat):Int) - (1:Int)))≤((length s0:Nat):Int))) (chk (decide (0≤(0:Int))) (chk (decide ((0:Int)≤(IntKind.wrap .i64 (((length s0:Nat):Int) - (1:Int))))) ((ag1 ((drop (Int.toNat (0:Int)) (take (Int.toNat (IntKind.wrap .i64 (((length s0:Nat):Int) - (1:Int)))) s0))))))))
 else
 some ((V.str s0),[])))
 else
 some ((V.str s0),[])
def J4 (call:FuncId→Fun) (ag0:List UInt8→Option (V×List Ob)) (ag1:List UInt8→Option (V×List Ob)) (a0:List UInt8):Option (V×List Ob):=
 (ag0 (a0))
def J5 (a0:List UInt8):List V:=[V.str a0]
def oM (s0:List UInt8):St:=⟨[(V.str s0)]++List.replicate 29 V.bot,[]⟩
def oN (s0:List UInt8):St:=⟨[(V.str s0)]++List.replicate 29 V.bot,[]⟩
theorem L6 (s0:List UInt8):
 RM 105 Tryz.f105 [] call icall again (aK Tryz.f105 0) (oM s0)=yR call (fun s0=>again (aK Tryz.f105 0) (oM s0)) (fun s0=>again (aK Tryz.f105 1) (oN s0)) s0:=by kernel_rfl
theorem L8 (s0:List UInt8):
 RM 105 Tryz.f105 [] call icall again (aK Tryz.f105 1) (oN s0)=yS call (fun s0=>again (aK Tryz.f105 0) (oM s0)) (fun s0=>again (aK Tryz.f105 1) (oN s0)) s0:=by kernel_rfl
theorem Ql (a0:List UInt8):GO 105 Tryz.f105 (J5 a0) [] call icall again=J4 call (fun s0=>again (aK Tryz.f105 0) (oM s0)) (fun s0=>again (aK Tryz.f105 1) (oN s0)) a0:=by kernel_rfl
def iS (call:FuncId→Fun):Nat→(List UInt8→Option (V×List Ob))×(List UInt8→Option (V×List Ob))
 |0=>⟨fun _=>none,fun _=>none⟩
 |n+1=>⟨yR call (iS call n).1 (iS call n).2,yS call (iS call n).1 (iS call n).2⟩
theorem N4 (call:FuncId→Fun) (icall:aQ (V×List Ob)):∀n,(∀(s0:List UInt8),RN 105 Tryz.f105 [] call icall n (aK Tryz.f105 0) (oM s0)=(iS call n).1 s0)∧(∀(s0:List UInt8),RN 105 Tryz.f105 [] call icall n (aK Tryz.f105 1) (oN s0)=(iS call n).2 s0)
 |0=>⟨fun s0=>rfl,fun s0=>rfl⟩
 |n+1=>by
  have ih:=N4 call icall n
  exact⟨fun s0=>(L6 call icall (RN 105 Tryz.f105 [] call icall n) s0).trans (by rw[show(fun s0=>RN 105 Tryz.f105 [] call icall n (aK Tryz.f105 0) (oM s0))=(iS call n).1 from(funext fun s0=>ih.1 s0),show(fun s0=>RN 105 Tryz.f105 [] call icall n (aK Tryz.f105 1) (oN s0))=(iS call n).2 from(funext fun s0=>ih.2 s0)];rfl),
   fun s0=>(L8 call icall (RN 105 Tryz.f105 [] call icall n) s0).trans (by rw[show(fun s0=>RN 105 Tryz.f105 [] call icall n (aK Tryz.f105 0) (oM s0))=(iS call n).1 from(funext fun s0=>ih.1 s0),show(fun s0=>RN 105 Tryz.f105 [] call icall n (aK Tryz.f105 1) (oN s0))=(iS call n).2 from(funext fun s0=>ih.2 s0)];rfl)⟩
theorem Qm (k:Nat) (a0:List UInt8):aA cfg (k+1) 105 (J5 a0) []=J4 (aA cfg k) (iS (aA cfg k) k).1 (iS (aA cfg k) k).2 a0:=by
 have ih:=N4 (aA cfg k) (aE cfg (aA cfg k) 20) k
 refine(show aA cfg (k+1) 105 (J5 a0) []=GO 105 Tryz.f105 (J5 a0) [] (aA cfg k) (aE cfg (aA cfg k) 20) (RN 105 Tryz.f105 [] (aA cfg k) (aE cfg (aA cfg k) 20) k)by kernel_rfl).trans ((Ql _ _ _ a0).trans ?_)
 rw[show(fun s0=>RN 105 Tryz.f105 [] (aA cfg k) (aE cfg (aA cfg k) 20) k (aK Tryz.f105 0) (oM s0))=(iS (aA cfg k) k).1 from(funext fun s0=>ih.1 s0),show(fun s0=>RN 105 Tryz.f105 [] (aA cfg k) (aE cfg (aA cfg k) 20) k (aK Tryz.f105 1) (oN s0))=(iS (aA cfg k) k).2 from(funext fun s0=>ih.2 s0)]
theorem Qn (a0:List UInt8) {r:V×List Ob} (h:Evt (fun k n=>J4 (aA cfg k) (iS (aA cfg k) n).1 (iS (aA cfg k) n).2 a0) r):Ret 105 [V.str a0] [] r:=aS (g:=fun k n=>J4 (aA cfg k) (iS (aA cfg k) n).1 (iS (aA cfg k) n).2 a0) (fun k=>Qm k a0) h
theorem HQ (s0:List UInt8) {r:V×List Ob} (h:Evt (fun k n=>yR (aA cfg k) (iS (aA cfg k) n).1 (iS (aA cfg k) n).2 s0) r):Evt (fun k n=>(iS (aA cfg k) n).1 s0) r:=aV (fun k n=>rfl) h
theorem HT (s0:List UInt8) {r:V×List Ob} (h:Evt (fun k n=>yS (aA cfg k) (iS (aA cfg k) n).1 (iS (aA cfg k) n).2 s0) r):Evt (fun k n=>(iS (aA cfg k) n).2 s0) r:=aV (fun k n=>rfl) h
end Go.Proofs.YtdoaoaicdimbeaaGreatDoor
end
section
namespace Go.Proofs.YtdoaoaicdimbeaaGreatDoor
open Go.Ev Go
def Dj:Bs:=[40,41,60,62,64,44,59,58,92,34,47,91,93,63,61]
def sC (c:UInt8):Bool:=33≤c&&c≤126&& !Dj.contains c
def eU (c:UInt8):Bool:=c==32||c==9
theorem yT (a b:UInt8):(((a.toNat:Nat):Int)==((b.toNat:Nat):Int))=(a==b):=by
 by_cases h:a=b
 ·subst h;simp
 ·have:a.toNat≠b.toNat:=fun e=>h (UInt8.toNat_inj.1 e)
  have h1:(a==b)=false:=by simpa using h
  rw[h1];simp;omega
theorem eH (a:UInt8) (n:Nat) (h:n<256):(((a.toNat:Nat):Int)==(n:Int))=(a==UInt8.ofNat n):=by
 have:(UInt8.ofNat n).toNat=n:=by simp;omega
 have:=yT a (UInt8.ofNat n)
 rwa [‹(UInt8.ofNat n).toNat=n›]at this
theorem pS (a b:UInt8):(((a.toNat:Nat):Int)≤((b.toNat:Nat):Int))↔a≤b:=by
 rw[UInt8.le_iff_toNat_le];omega
theorem BW (s:Bs) (i:Nat):Ret 151 [.ref 0 0, .int .i64 i] [.cells [.str s]] (.int .u8 ((s.getD i 0).toNat:Nat),[.cells [.str s]]):=by
 refine PH s i ?_
 simp only[Hv]
 by_cases h:i<s.length
 ·have h1:¬((i:Int)≥(s.length:Int)):=by omega
  have h2:(i:Int)<(s.length:Int):=by omega
  have h3:(0:Int)≤(i:Int):=by omega
  simp only[h1,decide_false,Bool.false_eq_true,if_false,aI h2,aI h3,Int.toNat_natCast]
  exact aC _
 ·have h1:((i:Int)≥(s.length:Int)):=by omega
  have h4:s.getD i 0=0:=by simp[List.getD,List.getElem?_eq_none (by omega:s.length≤i)]
  simp only[h1,decide_true,if_true,h4]
  exact aC _
theorem uJ (c:UInt8):Ret 104 [.int .u8 (c.toNat:Nat)] [] (.bool (eU c),[]):=by
 refine PL (c.toNat:Nat) ?_
 have h32:(((c.toNat:Nat):Int)==(32:Int))=(c==32):=eH c 32 (by omega)
 have h9:(((c.toNat:Nat):Int)==(9:Int))=(c==9):=eH c 9 (by omega)
 simp only[Hx,h32,h9,eU]
 cases h:(c==32)
 ·simp only[if_true,bS,Bool.false_or];exact aC _
 ·simp only[Bool.true_eq_false,if_false,bS,Bool.true_or];exact aC _
theorem BX (s:Bs) (i:Nat) (h:i<s.length) (hb:s[i]<128):Utf8.decode ⟨s.toArray⟩ i=(s[i].toNat,1):=by
 have e:(ByteArray.get! ⟨s.toArray⟩ (i+0)).toNat=s[i].toNat:=by simp[ByteArray.get!,h]
 have hlt:s[i].toNat<0x80:=by have:=UInt8.lt_iff_toNat_lt.1 hb;simpa using this
 unfold Utf8.decode
 simp only[e,hlt,if_true]
theorem Fb (c:UInt8) (s:Bs) (hs:∀b∈s,b<128):∀(n i:Nat),s.length - i=n→i≤s.length→
  Evt (fun k n=>Al (aA cfg k) n (c.toNat:Nat) s (i:Nat)) (.bool ((s.drop i).contains c),[])
 |0,i,h,hi=>by
  refine HM (c.toNat:Nat) s (i:Nat) ?_
  have h1:¬(i<s.length):=by omega
  have h2:s.drop i=[]:=List.drop_eq_nil_of_le (by omega)
  simp only[yO,Int.toNat_natCast,h1,if_false,h2,List.contains_nil]
  exact aC _
 |n+1,i,h,hi=>by
  refine HM (c.toNat:Nat) s (i:Nat) ?_
  have h1:i<s.length:=by omega
  have hd:=BX s i h1 (hs _ (List.getElem_mem h1))
  have hw:IntKind.wrap .i32 ((c.toNat:Nat):Int)=((c.toNat:Nat):Int):=by
   rw[IntKind.wrap_i32];have:=c.toNat_lt;omega
  simp only[yO,Int.toNat_natCast,h1,if_true,hd,hw,yT]
  rw[drop_at h1]
  cases he:(s[i]==c)
  ·have hx:(s[i]::s.drop (i+1)).contains c=(s.drop (i+1)).contains c:=by
    have:(c==s[i])=false:=by rw[BEq.comm];exact he
    rw[List.contains_cons,this];simp
   simp only[Bool.false_eq_true,if_false,hx]
   exact Fb c s hs n (i+1) (by omega) (by omega)
  ·have hx:(s[i]::s.drop (i+1)).contains c=true:=by
    have:(c==s[i])=true:=by rw[BEq.comm];exact he
    rw[List.contains_cons,this];simp
   simp only[if_true,hx]
   exact aC _
theorem L9 (c:UInt8) (s:Bs) (hs:∀b∈s,b<128):Ret 166 [.str s, .int .u8 (c.toNat:Nat)] [] (.bool (s.contains c),[]):=by
 refine Qe s (c.toNat:Nat) ?_
 simp only[HL]
 exact Fb c s hs _ 0 rfl (by omega)
theorem Ma (c:UInt8):Ret 153 [.int .u8 (c.toNat:Nat)] [] (.bool (sC c),[]):=by
 refine PV (c.toNat:Nat) ?_
 simp only[HB,sC]
 by_cases h1:33≤c
 ·have g1:((c.toNat:Nat):Int)≥33:=(pS 33 c).2 h1
  by_cases h2:c≤126
  ·have g2:((c.toNat:Nat):Int)≤126:=(pS c 126).2 h2
   simp only[g1,g2,h1,h2,decide_true,if_true,Bool.true_and]
   refine aD (L9 c Dj (by decide)) ?_
   exact aC _
  ·have g2:¬((c.toNat:Nat):Int)≤126:=fun e=>h2 ((pS c 126).1 e)
   simp only[g1,g2,h1,h2,decide_true,decide_false,if_true,Bool.false_eq_true,if_false,Bool.true_and,Bool.false_and]
   exact aC _
 ·have g1:¬((c.toNat:Nat):Int)≥33:=fun e=>h1 ((pS 33 c).1 e)
  simp only[g1,h1,decide_false,Bool.false_eq_true,if_false,Bool.false_and]
  exact aC _
theorem yU (s:Bs) (hs:s.length<4294967281):Ret 73 [.str s] [] (.str (s.map dB),[]):=
 iR (h:=Df) rfl (by simp[Df,hs])
theorem HU (a b:Bs) (ha:a.length<4294967281) (hb:b.length<4294967281):Ret 69 [.str a, .str b] [] (.bool (a.map dB==b.map dB),[]):=by
 refine M69 a b ?_
 simp only[T69]
 refine aD (yU a ha) (aD (yU b hb) ?_)
 exact aC _
def tokF (s:Bs):Bs×Bs:=(s.takeWhile sC,s.dropWhile sC)
theorem J6 (s:Bs) (hs:s.length≤1000000):∀(n i:Nat),s.length - i=n→i≤s.length→(∀j (h:j<s.length),j<i→sC s[j]=true)→
  Evt (fun k n=>Ai (aA cfg k) n (i:Nat) s) (.str (tokF s).1,[.cells [.str (tokF s).2]]):=by
 have fin:∀i:Nat,i≤s.length→(∀j (h:j<s.length),j<i→sC s[j]=true)→(∀h:i<s.length,sC s[i]=false)→(tokF s).1=s.take i∧(tokF s).2=s.drop i:=by
  intro i hi h1 h2
  have e:s=s.take i++s.drop i:=(List.take_append_drop i s).symm
  have h3:∀b∈s.take i,sC b=true:=by
   intro b hb
   obtain⟨j,hj,rfl⟩:=List.getElem_of_mem hb
   have hj' :j<i∧j<s.length:=by rw[List.length_take]at hj;omega
   rw[List.getElem_take]
   exact h1 j hj'.2 hj'.1
  have h4:(s.drop i).takeWhile sC=[]∧(s.drop i).dropWhile sC=s.drop i:=by
   by_cases hlt:i<s.length
   ·rw[drop_at hlt,List.takeWhile_cons_of_neg (by simp[h2 hlt]),List.dropWhile_cons_of_neg (by simp[h2 hlt])];exact⟨rfl,rfl⟩
   ·rw[List.drop_eq_nil_of_le (by omega)];simp
  unfold tokF
  constructor
  ·show s.takeWhile sC=_
   conv=>lhs;rw[e]
   rw[List.takeWhile_append_of_pos h3,h4.1,List.append_nil]
  ·show s.dropWhile sC=_
   conv=>lhs;rw[e]
   rw[List.dropWhile_append_of_pos h3,h4.2]
 intro n
 induction n with
 |zero=>
  intro i h hi hb
  refine Ho (i:Nat) s ?_
  have h1:¬((i:Int)<(s.length:Int)):=by omega
  have h2:(0:Int)≤(i:Int):=by omega
  have h3:((i:Int)≤(s.length:Int)):=by omega
  obtain⟨e1,e2⟩:=fin i hi hb (fun h=>by omega)
  simp only[yK,h1,decide_false,Bool.false_eq_true,if_false,aI h2,aI h3,aI (Int.le_refl 0),Int.toNat_natCast,e1,e2]
  exact aC _
 |succ n ih=>
  intro i h hi hb
  refine Ho (i:Nat) s ?_
  have hlt:i<s.length:=by omega
  have h1:((i:Int)<(s.length:Int)):=by omega
  have h2:(0:Int)≤(i:Int):=by omega
  have h3:((i:Int)≤(s.length:Int)):=by omega
  have hw:IntKind.wrap .i64 ((i:Int)+1)=((i+1:Nat):Int):=by rw[wrap64 (by omega) (by omega)];omega
  simp only[yK,h1,decide_true,if_true,aI h2,aI h3,bX,aI (Int.le_refl 0),Int.toNat_natCast,getD_at hlt]
  refine aD (Ma s[i]) ?_
  simp only[V.getB,hw]
  cases ht:sC s[i]
  ·obtain⟨e1,e2⟩:=fin i hi hb (fun _=>ht)
   simp only[Bool.false_eq_true,if_false,e1,e2]
   exact aC _
  ·simp only[if_true]
   refine ih (i+1) (by omega) (by omega) fun j hj hji=>?_
   by_cases e:j=i
   ·subst e;exact ht
   ·exact hb j hj (by omega)
theorem BY (s:Bs) (hs:s.length≤1000000):Ret 130 [.agg [.ref 0 0]] [.cells [.str s]] (.str (tokF s).1,[.cells [.str (tokF s).2]]):=by
 refine Pn s ?_
 simp only[Hn]
 exact J6 s hs _ 0 rfl (by omega) (fun j h hj=>by omega)
end Go.Proofs.YtdoaoaicdimbeaaGreatDoor
end
section
namespace Go.Proofs.YtdoaoaicdimbeaaGreatDoor
open Go.Ev Go
def mS:Int→Bs→Bs
 |_,[]=>[]
 |_,[_]=>[]
 |d,c::x::r=>
  if c=92 then mS d r
  else if c=40 then mS (IntKind.wrap .i64 (d+1)) (x::r)
  else if c=41 then(if IntKind.wrap .i64 (d - 1)=0 then x::r else mS (IntKind.wrap .i64 (d - 1)) (x::r))
  else mS d (x::r)
theorem A1 (d:Int) (c:UInt8) (r:Bs):mS d (c::r)=
  if c=92 then mS d (r.drop 1)else if c=40 then mS (IntKind.wrap .i64 (d+1)) r
  else if c=41 then(if IntKind.wrap .i64 (d - 1)=0 then r else mS (IntKind.wrap .i64 (d - 1)) r)else mS d r:=by
 cases r with
 |nil=>simp[mS]
 |cons x r=>rw[mS];rfl
theorem eV:∀(n:Nat) (d:Int) (s:Bs),s.length≤n→(mS d s).length≤s.length - 1
 |_,_,[],_=>by simp[mS]
 |0,_,c::r,h=>by simp at h
 |n+1,d,c::r,h=>by
  simp at h
  rw[A1]
  have h1:=eV n d (r.drop 1) (by simp;omega)
  have h2:=eV n (IntKind.wrap .i64 (d+1)) r h
  have h3:=eV n (IntKind.wrap .i64 (d - 1)) r h
  have h4:=eV n d r h
  simp at h1 h2 h3 h4 ⊢
  split
  ·omega
  ·split
   ·omega
   ·split
    ·split<;>omega
    ·omega
theorem J7 (s:Bs) (hs:s.length≤1000000):∀(n i:Nat) (d:Int),s.length - i≤n→
  ∃m:Nat,m≤s.length∧s.drop m=mS d (s.drop i)∧Evt (fun k n=>uD (aA cfg k) n d (i:Nat) s) (.int .i64 (m:Nat),[.cells [.str s]]):=by
 have out:∀(i:Nat) (d:Int),s.length≤i→∃m:Nat,m≤s.length∧s.drop m=mS d (s.drop i)∧Evt (fun k n=>uD (aA cfg k) n d (i:Nat) s) (.int .i64 (m:Nat),[.cells [.str s]]):=by
  intro i d h
  refine⟨s.length,Nat.le_refl _,?_,?_⟩
  ·rw[List.drop_eq_nil_of_le h,List.drop_eq_nil_of_le (Nat.le_refl _)];rfl
  ·refine Hz d (i:Nat) s ?_
   have h1:¬((i:Int)<(s.length:Int)):=by omega
   simp only[lD,h1,decide_false,Bool.false_eq_true,if_false]
   exact aC _
 intro n
 induction n with
 |zero=>intro i d h;exact out i d (by omega)
 |succ n ih=>
  intro i d h
  by_cases hlt:i<s.length
  ·have h1:((i:Int)<(s.length:Int)):=by omega
   have h2:(0:Int)≤(i:Int):=by omega
   have hw:IntKind.wrap .i64 ((i:Int)+1)=((i+1:Nat):Int):=by rw[wrap64 (by omega) (by omega)];omega
   have hw2:IntKind.wrap .i64 (((i+1:Nat):Int)+1)=((i+2:Nat):Int):=by rw[wrap64 (by omega) (by omega)];omega
   have e92:(((s[i].toNat:Nat):Int)==(92:Int))=(s[i]==92):=eH s[i] 92 (by omega)
   have e40:(((s[i].toNat:Nat):Int)==(40:Int))=(s[i]==40):=eH s[i] 40 (by omega)
   have e41:(((s[i].toNat:Nat):Int)==(41:Int))=(s[i]==41):=eH s[i] 41 (by omega)
   rw[drop_at hlt,A1]
   have step:∀r,Evt (fun k n=>lD (aA cfg k) (uD (aA cfg k) n) d (i:Nat) s) r→Evt (fun k n=>uD (aA cfg k) n d (i:Nat) s) r:=fun r hr=>Hz d (i:Nat) s hr
   by_cases c92:s[i]=92
   ·obtain⟨m,g1,g2,g3⟩:=ih (i+2) d (by omega)
    refine⟨m,g1,?_,step _ ?_⟩
    ·rw[if_pos c92,g2,List.drop_drop]
    ·simp only[lD,h1,decide_true,if_true,aI h2,bX,Int.toNat_natCast,getD_at hlt,e92,c92,beq_self_eq_true,hw,hw2]
     exact g3
   ·by_cases c40:s[i]=40
    ·obtain⟨m,g1,g2,g3⟩:=ih (i+1) (IntKind.wrap .i64 (d+1)) (by omega)
     refine⟨m,g1,?_,step _ ?_⟩
     ·rw[if_neg c92,if_pos c40,g2]
     ·have b92:(s[i]==92)=false:=by simpa using c92
      simp only[lD,h1,decide_true,if_true,aI h2,bX,Int.toNat_natCast,getD_at hlt,e92,b92,e40,c40,beq_self_eq_true,Bool.false_eq_true,if_false,hw]
      exact g3
    ·have b92:(s[i]==92)=false:=by simpa using c92
     have b40:(s[i]==40)=false:=by simpa using c40
     by_cases c41:s[i]=41
     ·by_cases hd:IntKind.wrap .i64 (d - 1)=0
      ·refine⟨i+1,by omega,?_,step _ ?_⟩
       ·rw[if_neg c92,if_neg c40,if_pos c41,if_pos hd]
       ·simp only[lD,h1,decide_true,if_true,aI h2,bX,Int.toNat_natCast,getD_at hlt,e92,b92,e40,b40,e41,c41,hd,beq_self_eq_true,Bool.false_eq_true,if_false,hw]
        exact aC _
      ·obtain⟨m,g1,g2,g3⟩:=ih (i+1) (IntKind.wrap .i64 (d - 1)) (by omega)
       refine⟨m,g1,?_,step _ ?_⟩
       ·rw[if_neg c92,if_neg c40,if_pos c41,if_neg hd,g2]
       ·have hb:(IntKind.wrap .i64 (d - 1)==0)=false:=by simpa using hd
        simp only[lD,h1,decide_true,if_true,aI h2,bX,Int.toNat_natCast,getD_at hlt,e92,b92,e40,b40,e41,c41,hb,beq_self_eq_true,Bool.false_eq_true,if_false,hw]
        exact g3
     ·obtain⟨m,g1,g2,g3⟩:=ih (i+1) d (by omega)
      refine⟨m,g1,?_,step _ ?_⟩
      ·rw[if_neg c92,if_neg c40,if_neg c41,g2]
      ·have b41:(s[i]==41)=false:=by simpa using c41
       simp only[lD,h1,decide_true,if_true,aI h2,bX,Int.toNat_natCast,getD_at hlt,e92,b92,e40,b40,e41,b41,beq_self_eq_true,Bool.false_eq_true,if_false,hw]
       exact g3
  ·exact out i d (by omega)
theorem Mb (s:Bs) (hs:s.length≤1000000):∃m:Nat,m≤s.length∧s.drop m=mS 0 s∧Ret 152 [.agg [.ref 0 0]] [.cells [.str s]] (.int .i64 (m:Nat),[.cells [.str s]]):=by
 obtain⟨m,g1,g2,g3⟩:=J7 s hs s.length 0 0 (by omega)
 refine⟨m,g1,by simpa using g2,PO s ?_⟩
 simp only[Hy]
 exact g3
def cR (s:Bs):Bs:=
 match s with
 |[]=>[]
 |c::r=>if eU c then cR r else if c=40 then cR (mS 0 (c::r))else c::r
termination_by s.length
decreasing_by
 ·simp
 ·have:=eV _ 0 (c::r) (Nat.le_refl _);simp at this ⊢;omega
theorem yV (c:UInt8) (r:Bs):cR (c::r)=if eU c then cR r else if c=40 then cR (mS 0 (c::r))else c::r:=by rw[cR]
theorem pT:cR []=[]:=by rw[cR]
theorem mT:∀(n:Nat) (s:Bs),s.length≤n→(cR s).length≤s.length
 |_,[],_=>by simp[pT]
 |0,c::r,h=>by simp at h
 |n+1,c::r,h=>by
  rw[yV]
  have h0:=eV _ 0 (c::r) (Nat.le_refl _)
  simp at h h0 ⊢
  split
  ·have:=mT n r (by omega);omega
  ·split
   ·have:=mT n (mS 0 (c::r)) (by omega);omega
   ·simp
theorem oO (s:Bs):(cR s).length≤s.length:=mT _ s (Nat.le_refl _)
theorem BZ:∀(n:Nat) (s:Bs),s.length≤n→s.length≤1000000→Evt (fun k n=>Ag (aA cfg k) n s) (.tup [],[.cells [.str (cR s)]])
 |_,[],_,_=>by
  refine Hm [] ?_
  simp only[yJ,pT,List.length_nil]
  exact aC _
 |0,c::r,h,_=>by simp at h
 |n+1,c::r,h,hs=>by
  refine Hm (c::r) ?_
  have h1:(((c::r).length:Nat):Int)>0:=by rw[List.length_cons];omega
  have h2:(1:Int)≤(((c::r).length:Nat):Int):=by rw[List.length_cons];omega
  simp only[yJ,h1,decide_true,if_true]
  refine aD (BW (c::r) 0) ?_
  simp only[V.getI,List.getD_cons_zero]
  refine aD (uJ c) ?_
  have e40:(((c.toNat:Nat):Int)==(40:Int))=(c==40):=eH c 40 (by omega)
  simp only[V.getB,e40]
  rw[yV]
  cases hb:eU c
  ·simp only[Bool.false_eq_true,if_false]
   by_cases hc:c=40
   ·simp only[hc,beq_self_eq_true,if_true]
    obtain⟨m,g1,g2,g3⟩:=Mb (40::r) (by subst hc;exact hs)
    refine aD g3 ?_
    have h3:(0:Int)≤(m:Int):=by omega
    have h4:(m:Int)≤(((40::r:Bs).length:Nat):Int):=by omega
    simp only[V.getI,aI h3,aI h4,Int.toNat_natCast]
    rw[g2]
    have:=eV _ 0 (40::r) (Nat.le_refl _)
    simp at this h hs
    exact BZ n _ (by omega) (by omega)
   ·have hc' :(c==40)=false:=by simpa using hc
    simp only[hc',hc,Bool.false_eq_true,if_false]
    exact aC _
  ·simp only[if_true,aI h2,aI (show(0:Int)≤1 by omega)]
   simp at h hs
   exact BZ n r (by omega) (by omega)
theorem EH (s:Bs) (hs:s.length≤1000000):Ret 129 [.agg [.ref 0 0]] [.cells [.str s]] (.tup [],[.cells [.str (cR s)]]):=by
 refine Pk s ?_
 simp only[Hl]
 exact BZ _ s (Nat.le_refl _) hs
def gV (c:UInt8) (s:Bs):Option Bs:=
 match cR s with
 |[]=>none
 |x::r=>if x=c then some (cR r)else none
theorem iT {c:UInt8} {s r:Bs} (h:gV c s=some r):r.length<s.length:=by
 unfold gV at h
 have h0:=oO s
 split at h
 ·cases h
 ·rename_i x r' he
  split at h
  ·cases h
   have:=oO r'
   rw[he]at h0;simp at h0;omega
  ·cases h
def sD (c:UInt8) (s:Bs):Bs:=match gV c s with|some r=>r|none=>cR s
theorem yW (s:Bs) (hs:s.length≤1000000) (c:UInt8) (hc:c≠0):Ret 131 [.agg [.ref 0 0], .int .u8 (c.toNat:Nat)] [.cells [.str s]] (.bool (gV c s).isSome,[.cells [.str (sD c s)]]):=by
 refine Pq s (c.toNat:Nat) ?_
 simp only[Hp]
 refine aD (EH s hs) ?_
 simp only[List.headD_cons,Ob.getC,V.getS]
 refine aD (BW (cR s) 0) ?_
 simp only[V.getI]
 have h0:=oO s
 unfold sD gV
 cases he:cR s with
 |nil=>
  have hb:((((([]:Bs).getD 0 0).toNat:Nat):Int) != ((c.toNat:Nat):Int))=true:=by
   have:c.toNat≠0:=fun e=>hc (UInt8.toNat_inj.1 e)
   simp;omega
  simp only[hb,if_true]
  exact aC _
 |cons x r=>
  rw[he]at h0;simp at h0
  have hb:(((((x::r:Bs).getD 0 0).toNat:Nat):Int) != ((c.toNat:Nat):Int))= !(x==c):=by
   rw[List.getD_cons_zero,bne,yT]
  simp only[hb]
  by_cases hx:x=c
  ·have h2:(1:Int)≤(((x::r:Bs).length:Nat):Int):=by rw[List.length_cons];omega
   simp only[hx,beq_self_eq_true,Bool.not_true,Bool.false_eq_true,if_false,if_true]
   rw[hx]at h2
   simp only[aI h2,aI (show(0:Int)≤1 by omega)]
   refine aD (EH r (by omega)) ?_
   exact aC _
  ·have hx' :(x==c)=false:=by simpa using hx
   simp only[hx',hx,Bool.not_false,if_true,if_false]
   exact aC _
end Go.Proofs.YtdoaoaicdimbeaaGreatDoor
end
