/- What the functions of the seat's program compute, one by one. Written by mkfn.py off the plain reading's own prints; that it is so is shown by the kernel. -/
import Derived.Test.YtmhhcoccfojiiaaDoorEvW
import Derived.Test.YtmhhcoccfojiiaaDoorTac
import Derived.Test.YtmhhcoccfojiiaaDoorGlue
import Derived.Test.YtmhhcoccfojiiaaDoorSay
import Derived.KernelRfl
namespace Go.Proofs.YtmhhcoccfojiiaaDoor
open Go.Ev Go
set_option maxRecDepth 100000

def T11_0 (call : FuncId → Fun) (ag0 : List UInt8 → Int → List UInt8 → List UInt8 → List V → Option (V × List Ob)) (s0 : List UInt8) (i1 : Int) (s2 : List UInt8) (s3 : List UInt8) (l4 : List V) : Option (V × List Ob) :=
  if (decide (i1 < ((List.length l4 : Nat) : Int))) = true then
    chk (decide (0 ≤ i1)) (chk (decide (i1 < ((List.length l4 : Nat) : Int))) (Option.bind (call 25 [(V.str (V.getS (List.headD (V.cells (List.getD l4 (Int.toNat i1) V.bot)) V.bot)))] []) fun p0 =>
    Option.bind (call 25 [(V.str s0)] []) fun p1 =>
    if (sEq (V.getS p0.1) (V.getS p1.1)) = true then
      chk (decide (0 ≤ i1)) (chk (decide (i1 < ((List.length l4 : Nat) : Int))) (some ((V.tup [(V.str (V.getS (List.headD (List.tail (V.cells (List.getD l4 (Int.toNat i1) V.bot))) V.bot))), (V.bool true)]), [])))
    else
      (ag0 (s0) ((IntKind.wrap IntKind.i64 (i1 + (1 : Int)))) (s2) (s3) (l4))))
  else
    some ((V.tup [(V.str []), (V.bool false)]), [])
def T11 (_call : FuncId → Fun) (ag0 : List UInt8 → Int → List UInt8 → List UInt8 → List V → Option (V × List Ob)) (a0 : List UInt8) (a1 : List UInt8) (a2 : List V) (a3 : List UInt8) : Option (V × List Ob) :=
  (ag0 (a3) ((0 : Int)) (a0) (a1) (a2))
def K11_0 (s0 : List UInt8) (i1 : Int) (s2 : List UInt8) (s3 : List UInt8) (l4 : List V) : St := ⟨[V.bot, (V.str s0), (V.ref 0 0), V.bot, V.bot, V.bot, (V.int IntKind.i64 i1), V.bot, V.bot, V.bot, V.bot, V.bot, V.bot, V.bot, V.bot, V.bot, V.bot, V.bot, V.bot, V.bot, V.bot, V.bot, V.bot, V.bot, V.bot, V.bot, V.bot, V.bot, V.bot, V.bot], [(Ob.cells [(V.str s2), (V.str s3), (V.lst 62 false l4)])]⟩
theorem S11_0 (call : FuncId → Fun) (icall : ICall (V × List Ob)) (again : List It → St → Option (V × List Ob)) (_a0 : List UInt8) (_a1 : List UInt8) (_a2 : List V) (_a3 : List UInt8) (s0 : List UInt8) (i1 : Int) (s2 : List UInt8) (s3 : List UInt8) (l4 : List V) :
    runM cfg call icall (slotsOf Tryd.f11.results.toList) (List.length (([] : List Ob) : List Ob)) again (finV cfg Tryd.f11 (finish cfg Tryd.f11 11 (List.map OSh.of (([] : List Ob) : List Ob)))) depth (tdOf Tryd.f11 0) (K11_0 s0 i1 s2 s3 l4) = T11_0 call (fun s0 i1 s2 s3 l4 => again (tdOf Tryd.f11 0) (K11_0 s0 i1 s2 s3 l4)) s0 i1 s2 s3 l4 := by kernel_rfl
theorem E11 (call : FuncId → Fun) (icall : ICall (V × List Ob)) (again : List It → St → Option (V × List Ob)) (a0 : List UInt8) (a1 : List UInt8) (a2 : List V) (a3 : List UInt8) :
    (envK [V.agg [V.str a0, V.str a1, V.lst 62 false a2], V.str a3] Tryd.f11.ntmps fun env => runM cfg call icall (slotsOf Tryd.f11.results.toList) (List.length (([] : List Ob) : List Ob)) again (finV cfg Tryd.f11 (finish cfg Tryd.f11 11 (List.map OSh.of (([] : List Ob) : List Ob)))) depth [.code (codeOf Tryd.f11)] ⟨env, ([] : List Ob)⟩) = T11 call (fun s0 i1 s2 s3 l4 => again (tdOf Tryd.f11 0) (K11_0 s0 i1 s2 s3 l4)) a0 a1 a2 a3 := by kernel_rfl
def L11 (call : FuncId → Fun) : Nat → (List UInt8 → Int → List UInt8 → List UInt8 → List V → Option (V × List Ob))
  | 0 => fun _ _ _ _ _ => none
  | n + 1 => T11_0 call (L11 call n)
theorem R11 (call : FuncId → Fun) (icall : ICall (V × List Ob)) (a0 : List UInt8) (a1 : List UInt8) (a2 : List V) (a3 : List UInt8) : ∀ n, (∀ (s0 : List UInt8) (i1 : Int) (s2 : List UInt8) (s3 : List UInt8) (l4 : List V), Go.Ev.runN cfg call icall (slotsOf Tryd.f11.results.toList) (List.length (([] : List Ob) : List Ob)) (finV cfg Tryd.f11 (finish cfg Tryd.f11 11 (List.map OSh.of (([] : List Ob) : List Ob)))) n (tdOf Tryd.f11 0) (K11_0 s0 i1 s2 s3 l4) = (L11 call n) s0 i1 s2 s3 l4)
  | 0 => fun s0 i1 s2 s3 l4 => rfl
  | n + 1 => by
    have ih := R11 call icall a0 a1 a2 a3 n
    exact fun s0 i1 s2 s3 l4 => (S11_0 call icall (Go.Ev.runN cfg call icall (slotsOf Tryd.f11.results.toList) (List.length (([] : List Ob) : List Ob)) (finV cfg Tryd.f11 (finish cfg Tryd.f11 11 (List.map OSh.of (([] : List Ob) : List Ob)))) n) a0 a1 a2 a3 s0 i1 s2 s3 l4).trans (by
      rw [show (fun s0 i1 s2 s3 l4 => Go.Ev.runN cfg call icall (slotsOf Tryd.f11.results.toList) (List.length (([] : List Ob) : List Ob)) (finV cfg Tryd.f11 (finish cfg Tryd.f11 11 (List.map OSh.of (([] : List Ob) : List Ob)))) n (tdOf Tryd.f11 0) (K11_0 s0 i1 s2 s3 l4)) = (L11 call n) from (funext fun s0 => funext fun i1 => funext fun s2 => funext fun s3 => funext fun l4 => ih s0 i1 s2 s3 l4)]; rfl)
theorem C11 (k : Nat) (a0 : List UInt8) (a1 : List UInt8) (a2 : List V) (a3 : List UInt8) : callN cfg (k + 1) 11 [V.agg [V.str a0, V.str a1, V.lst 62 false a2], V.str a3] ([] : List Ob) = T11 (callN cfg k) (L11 (callN cfg k) k) a0 a1 a2 a3 := by
  have ih := R11 (callN cfg k) (icallN cfg (callN cfg k) 20) a0 a1 a2 a3 k
  refine (show callN cfg (k + 1) 11 [V.agg [V.str a0, V.str a1, V.lst 62 false a2], V.str a3] ([] : List Ob) = (envK [V.agg [V.str a0, V.str a1, V.lst 62 false a2], V.str a3] Tryd.f11.ntmps fun env => runM cfg (callN cfg k) (icallN cfg (callN cfg k) 20) (slotsOf Tryd.f11.results.toList) (List.length (([] : List Ob) : List Ob)) (Go.Ev.runN cfg (callN cfg k) (icallN cfg (callN cfg k) 20) (slotsOf Tryd.f11.results.toList) (List.length (([] : List Ob) : List Ob)) (finV cfg Tryd.f11 (finish cfg Tryd.f11 11 (List.map OSh.of (([] : List Ob) : List Ob)))) k) (finV cfg Tryd.f11 (finish cfg Tryd.f11 11 (List.map OSh.of (([] : List Ob) : List Ob)))) depth [.code (codeOf Tryd.f11)] ⟨env, ([] : List Ob)⟩) by kernel_rfl).trans ((E11 _ _ _ a0 a1 a2 a3).trans ?_)
  rw [show (fun s0 i1 s2 s3 l4 => Go.Ev.runN cfg (callN cfg k) (icallN cfg (callN cfg k) 20) (slotsOf Tryd.f11.results.toList) (List.length (([] : List Ob) : List Ob)) (finV cfg Tryd.f11 (finish cfg Tryd.f11 11 (List.map OSh.of (([] : List Ob) : List Ob)))) k (tdOf Tryd.f11 0) (K11_0 s0 i1 s2 s3 l4)) = (L11 (callN cfg k) k) from (funext fun s0 => funext fun i1 => funext fun s2 => funext fun s3 => funext fun l4 => ih s0 i1 s2 s3 l4)]
theorem M11 (a0 : List UInt8) (a1 : List UInt8) (a2 : List V) (a3 : List UInt8) {r : V × List Ob} (h : Evt (fun k n => T11 (callN cfg k) (L11 (callN cfg k) n) a0 a1 a2 a3) r) : Ret 11 [V.agg [V.str a0, V.str a1, V.lst 62 false a2], V.str a3] ([] : List Ob) r := ret_mk (g := fun k n => T11 (callN cfg k) (L11 (callN cfg k) n) a0 a1 a2 a3) (fun k => C11 k a0 a1 a2 a3) h
theorem N11_0 (s0 : List UInt8) (i1 : Int) (s2 : List UInt8) (s3 : List UInt8) (l4 : List V) {r : V × List Ob} (h : Evt (fun k n => T11_0 (callN cfg k) (L11 (callN cfg k) n) s0 i1 s2 s3 l4) r) : Evt (fun k n => (L11 (callN cfg k) n) s0 i1 s2 s3 l4) r := evt_step (g' := fun k n => T11_0 (callN cfg k) (L11 (callN cfg k) n) s0 i1 s2 s3 l4) (fun _k _n => rfl) h

def T12_0 (_call : FuncId → Fun) (ag0 : Int → List UInt8 → List UInt8 → List V → List UInt8 → List UInt8 → List V → Option (V × List Ob)) (i0 : Int) (s1 : List UInt8) (s2 : List UInt8) (l3 : List V) (s4 : List UInt8) (s5 : List UInt8) (l6 : List V) : Option (V × List Ob) :=
  if (decide (i0 < ((List.length l3 : Nat) : Int))) = true then
    chk (decide (0 ≤ i0)) (chk (decide (i0 < ((List.length l3 : Nat) : Int))) (chk (decide (0 ≤ i0)) (chk (decide (i0 < ((List.length l6 : Nat) : Int))) (if (!((sEq (V.getS (List.headD (V.cells (List.getD l3 (Int.toNat i0) V.bot)) V.bot)) (V.getS (List.headD (V.cells (List.getD l6 (Int.toNat i0) V.bot)) V.bot))) && ((sEq (V.getS (List.headD (List.tail (V.cells (List.getD l3 (Int.toNat i0) V.bot))) V.bot)) (V.getS (List.headD (List.tail (V.cells (List.getD l6 (Int.toNat i0) V.bot))) V.bot))) && true))) = true then
      some ((V.bool false), [])
    else
      (ag0 ((IntKind.wrap IntKind.i64 (i0 + (1 : Int)))) (s1) (s2) (l3) (s4) (s5) (l6))))))
  else
    some ((V.bool true), [])
def T12 (_call : FuncId → Fun) (ag0 : Int → List UInt8 → List UInt8 → List V → List UInt8 → List UInt8 → List V → Option (V × List Ob)) (a0 : List UInt8) (a1 : List UInt8) (a2 : List V) (a3 : List UInt8) (a4 : List UInt8) (a5 : List V) : Option (V × List Ob) :=
  Option.bind (if (!(sEq a0 a3)) = false then
      if (!(sEq a1 a4)) = false then
        some (((List.length a2 : Nat) : Int) != ((List.length a5 : Nat) : Int))
      else
        some true
    else
      some true) fun b0 =>
  if b0 = true then
    some ((V.bool false), [])
  else
    (ag0 ((0 : Int)) (a0) (a1) (a2) (a3) (a4) (a5))
def K12_0 (i0 : Int) (s1 : List UInt8) (s2 : List UInt8) (l3 : List V) (s4 : List UInt8) (s5 : List UInt8) (l6 : List V) : St := ⟨[V.bot, V.bot, (V.ref 0 0), (V.ref 1 0), V.bot, (V.int IntKind.i64 i0), V.bot, V.bot, V.bot, V.bot, V.bot, V.bot, V.bot, V.bot, V.bot, V.bot, V.bot, V.bot, V.bot, V.bot, V.bot, V.bot, V.bot, V.bot, V.bot, V.bot, V.bot, V.bot, V.bot, V.bot, V.bot, V.bot, V.bot, V.bot, V.bot, V.bot, V.bot, V.bot, V.bot, V.bot, V.bot, V.bot, V.bot, V.bot, V.bot], [(Ob.cells [(V.str s1), (V.str s2), (V.lst 62 false l3)]), (Ob.cells [(V.str s4), (V.str s5), (V.lst 62 false l6)])]⟩
theorem S12_0 (call : FuncId → Fun) (icall : ICall (V × List Ob)) (again : List It → St → Option (V × List Ob)) (_a0 : List UInt8) (_a1 : List UInt8) (_a2 : List V) (_a3 : List UInt8) (_a4 : List UInt8) (_a5 : List V) (i0 : Int) (s1 : List UInt8) (s2 : List UInt8) (l3 : List V) (s4 : List UInt8) (s5 : List UInt8) (l6 : List V) :
    runM cfg call icall (slotsOf Tryd.f12.results.toList) (List.length (([] : List Ob) : List Ob)) again (finV cfg Tryd.f12 (finish cfg Tryd.f12 12 (List.map OSh.of (([] : List Ob) : List Ob)))) depth (tdOf Tryd.f12 0) (K12_0 i0 s1 s2 l3 s4 s5 l6) = T12_0 call (fun i0 s1 s2 l3 s4 s5 l6 => again (tdOf Tryd.f12 0) (K12_0 i0 s1 s2 l3 s4 s5 l6)) i0 s1 s2 l3 s4 s5 l6 := by kernel_rfl
theorem E12 (call : FuncId → Fun) (icall : ICall (V × List Ob)) (again : List It → St → Option (V × List Ob)) (a0 : List UInt8) (a1 : List UInt8) (a2 : List V) (a3 : List UInt8) (a4 : List UInt8) (a5 : List V) :
    (envK [V.agg [V.str a0, V.str a1, V.lst 62 false a2], V.agg [V.str a3, V.str a4, V.lst 62 false a5]] Tryd.f12.ntmps fun env => runM cfg call icall (slotsOf Tryd.f12.results.toList) (List.length (([] : List Ob) : List Ob)) again (finV cfg Tryd.f12 (finish cfg Tryd.f12 12 (List.map OSh.of (([] : List Ob) : List Ob)))) depth [.code (codeOf Tryd.f12)] ⟨env, ([] : List Ob)⟩) = T12 call (fun i0 s1 s2 l3 s4 s5 l6 => again (tdOf Tryd.f12 0) (K12_0 i0 s1 s2 l3 s4 s5 l6)) a0 a1 a2 a3 a4 a5 := by kernel_rfl
def L12 (call : FuncId → Fun) : Nat → (Int → List UInt8 → List UInt8 → List V → List UInt8 → List UInt8 → List V → Option (V × List Ob))
  | 0 => fun _ _ _ _ _ _ _ => none
  | n + 1 => T12_0 call (L12 call n)
theorem R12 (call : FuncId → Fun) (icall : ICall (V × List Ob)) (a0 : List UInt8) (a1 : List UInt8) (a2 : List V) (a3 : List UInt8) (a4 : List UInt8) (a5 : List V) : ∀ n, (∀ (i0 : Int) (s1 : List UInt8) (s2 : List UInt8) (l3 : List V) (s4 : List UInt8) (s5 : List UInt8) (l6 : List V), Go.Ev.runN cfg call icall (slotsOf Tryd.f12.results.toList) (List.length (([] : List Ob) : List Ob)) (finV cfg Tryd.f12 (finish cfg Tryd.f12 12 (List.map OSh.of (([] : List Ob) : List Ob)))) n (tdOf Tryd.f12 0) (K12_0 i0 s1 s2 l3 s4 s5 l6) = (L12 call n) i0 s1 s2 l3 s4 s5 l6)
  | 0 => fun i0 s1 s2 l3 s4 s5 l6 => rfl
  | n + 1 => by
    have ih := R12 call icall a0 a1 a2 a3 a4 a5 n
    exact fun i0 s1 s2 l3 s4 s5 l6 => (S12_0 call icall (Go.Ev.runN cfg call icall (slotsOf Tryd.f12.results.toList) (List.length (([] : List Ob) : List Ob)) (finV cfg Tryd.f12 (finish cfg Tryd.f12 12 (List.map OSh.of (([] : List Ob) : List Ob)))) n) a0 a1 a2 a3 a4 a5 i0 s1 s2 l3 s4 s5 l6).trans (by
      rw [show (fun i0 s1 s2 l3 s4 s5 l6 => Go.Ev.runN cfg call icall (slotsOf Tryd.f12.results.toList) (List.length (([] : List Ob) : List Ob)) (finV cfg Tryd.f12 (finish cfg Tryd.f12 12 (List.map OSh.of (([] : List Ob) : List Ob)))) n (tdOf Tryd.f12 0) (K12_0 i0 s1 s2 l3 s4 s5 l6)) = (L12 call n) from (funext fun i0 => funext fun s1 => funext fun s2 => funext fun l3 => funext fun s4 => funext fun s5 => funext fun l6 => ih i0 s1 s2 l3 s4 s5 l6)]; rfl)
theorem C12 (k : Nat) (a0 : List UInt8) (a1 : List UInt8) (a2 : List V) (a3 : List UInt8) (a4 : List UInt8) (a5 : List V) : callN cfg (k + 1) 12 [V.agg [V.str a0, V.str a1, V.lst 62 false a2], V.agg [V.str a3, V.str a4, V.lst 62 false a5]] ([] : List Ob) = T12 (callN cfg k) (L12 (callN cfg k) k) a0 a1 a2 a3 a4 a5 := by
  have ih := R12 (callN cfg k) (icallN cfg (callN cfg k) 20) a0 a1 a2 a3 a4 a5 k
  refine (show callN cfg (k + 1) 12 [V.agg [V.str a0, V.str a1, V.lst 62 false a2], V.agg [V.str a3, V.str a4, V.lst 62 false a5]] ([] : List Ob) = (envK [V.agg [V.str a0, V.str a1, V.lst 62 false a2], V.agg [V.str a3, V.str a4, V.lst 62 false a5]] Tryd.f12.ntmps fun env => runM cfg (callN cfg k) (icallN cfg (callN cfg k) 20) (slotsOf Tryd.f12.results.toList) (List.length (([] : List Ob) : List Ob)) (Go.Ev.runN cfg (callN cfg k) (icallN cfg (callN cfg k) 20) (slotsOf Tryd.f12.results.toList) (List.length (([] : List Ob) : List Ob)) (finV cfg Tryd.f12 (finish cfg Tryd.f12 12 (List.map OSh.of (([] : List Ob) : List Ob)))) k) (finV cfg Tryd.f12 (finish cfg Tryd.f12 12 (List.map OSh.of (([] : List Ob) : List Ob)))) depth [.code (codeOf Tryd.f12)] ⟨env, ([] : List Ob)⟩) by kernel_rfl).trans ((E12 _ _ _ a0 a1 a2 a3 a4 a5).trans ?_)
  rw [show (fun i0 s1 s2 l3 s4 s5 l6 => Go.Ev.runN cfg (callN cfg k) (icallN cfg (callN cfg k) 20) (slotsOf Tryd.f12.results.toList) (List.length (([] : List Ob) : List Ob)) (finV cfg Tryd.f12 (finish cfg Tryd.f12 12 (List.map OSh.of (([] : List Ob) : List Ob)))) k (tdOf Tryd.f12 0) (K12_0 i0 s1 s2 l3 s4 s5 l6)) = (L12 (callN cfg k) k) from (funext fun i0 => funext fun s1 => funext fun s2 => funext fun l3 => funext fun s4 => funext fun s5 => funext fun l6 => ih i0 s1 s2 l3 s4 s5 l6)]
theorem M12 (a0 : List UInt8) (a1 : List UInt8) (a2 : List V) (a3 : List UInt8) (a4 : List UInt8) (a5 : List V) {r : V × List Ob} (h : Evt (fun k n => T12 (callN cfg k) (L12 (callN cfg k) n) a0 a1 a2 a3 a4 a5) r) : Ret 12 [V.agg [V.str a0, V.str a1, V.lst 62 false a2], V.agg [V.str a3, V.str a4, V.lst 62 false a5]] ([] : List Ob) r := ret_mk (g := fun k n => T12 (callN cfg k) (L12 (callN cfg k) n) a0 a1 a2 a3 a4 a5) (fun k => C12 k a0 a1 a2 a3 a4 a5) h
theorem N12_0 (i0 : Int) (s1 : List UInt8) (s2 : List UInt8) (l3 : List V) (s4 : List UInt8) (s5 : List UInt8) (l6 : List V) {r : V × List Ob} (h : Evt (fun k n => T12_0 (callN cfg k) (L12 (callN cfg k) n) i0 s1 s2 l3 s4 s5 l6) r) : Evt (fun k n => (L12 (callN cfg k) n) i0 s1 s2 l3 s4 s5 l6) r := evt_step (g' := fun k n => T12_0 (callN cfg k) (L12 (callN cfg k) n) i0 s1 s2 l3 s4 s5 l6) (fun _k _n => rfl) h

def T13_0 (_call : FuncId → Fun) (ag0 : Int → List UInt8 → List UInt8 → List V → List UInt8 → List UInt8 → List V → List UInt8 → List UInt8 → List V → Option (V × List Ob)) (i0 : Int) (s1 : List UInt8) (s2 : List UInt8) (l3 : List V) (s4 : List UInt8) (s5 : List UInt8) (l6 : List V) (s7 : List UInt8) (s8 : List UInt8) (l9 : List V) : Option (V × List Ob) :=
  if (decide (i0 < ((List.length l3 : Nat) : Int))) = true then
    chk (decide (0 ≤ i0)) (chk (decide (i0 < ((List.length l3 : Nat) : Int))) (chk (decide (0 ≤ i0)) (chk (decide (i0 < ((List.length l3 : Nat) : Int))) (chk (appOk l9 [(V.agg [(V.str (V.getS (List.headD (V.cells (List.getD l3 (Int.toNat i0) V.bot)) V.bot))), (V.str (V.getS (List.headD (List.tail (V.cells (List.getD l3 (Int.toNat i0) V.bot))) V.bot)))])] 33) ((ag0 ((IntKind.wrap IntKind.i64 (i0 + (1 : Int)))) (s1) (s2) (l3) (s4) (s5) (l6) (s7) (s8) ((l9 ++ [(V.agg [(V.str (V.getS (List.headD (V.cells (List.getD l3 (Int.toNat i0) V.bot)) V.bot))), (V.str (V.getS (List.headD (List.tail (V.cells (List.getD l3 (Int.toNat i0) V.bot))) V.bot)))])]))))))))
  else
    some ((V.agg [(V.str s7), (V.str s8), (V.lst 62 false l9)]), [])
def T13 (_call : FuncId → Fun) (ag0 : Int → List UInt8 → List UInt8 → List V → List UInt8 → List UInt8 → List V → List UInt8 → List UInt8 → List V → Option (V × List Ob)) (a0 : List UInt8) (a1 : List UInt8) (a2 : List V) : Option (V × List Ob) :=
  (ag0 ((0 : Int)) (a0) (a1) (a2) ([]) ([]) ([]) (a0) (a1) ([]))
def K13_0 (i0 : Int) (s1 : List UInt8) (s2 : List UInt8) (l3 : List V) (s4 : List UInt8) (s5 : List UInt8) (l6 : List V) (s7 : List UInt8) (s8 : List UInt8) (l9 : List V) : St := ⟨[V.bot, (V.ref 0 0), (V.ref 1 0), (V.ref 2 0), (V.int IntKind.i64 i0), V.bot, V.bot, V.bot, V.bot, V.bot, V.bot, V.bot, V.bot, V.bot, V.bot, V.bot, V.bot, V.bot, V.bot, V.bot, V.bot, V.bot, V.bot, V.bot, V.bot, V.bot, V.bot, V.bot, V.bot, V.bot, V.bot, V.bot, V.bot, V.bot, V.bot, V.bot], [(Ob.cells [(V.str s1), (V.str s2), (V.lst 42 false l3)]), (Ob.cells [(V.str s4), (V.str s5), (V.lst 62 true l6)]), (Ob.cells [(V.str s7), (V.str s8), (V.lst 62 true l9)])]⟩
theorem S13_0 (call : FuncId → Fun) (icall : ICall (V × List Ob)) (again : List It → St → Option (V × List Ob)) (_a0 : List UInt8) (_a1 : List UInt8) (_a2 : List V) (i0 : Int) (s1 : List UInt8) (s2 : List UInt8) (l3 : List V) (s4 : List UInt8) (s5 : List UInt8) (l6 : List V) (s7 : List UInt8) (s8 : List UInt8) (l9 : List V) :
    runM cfg call icall (slotsOf Tryd.f13.results.toList) (List.length (([] : List Ob) : List Ob)) again (finV cfg Tryd.f13 (finish cfg Tryd.f13 13 (List.map OSh.of (([] : List Ob) : List Ob)))) depth (tdOf Tryd.f13 0) (K13_0 i0 s1 s2 l3 s4 s5 l6 s7 s8 l9) = T13_0 call (fun i0 s1 s2 l3 s4 s5 l6 s7 s8 l9 => again (tdOf Tryd.f13 0) (K13_0 i0 s1 s2 l3 s4 s5 l6 s7 s8 l9)) i0 s1 s2 l3 s4 s5 l6 s7 s8 l9 := by kernel_rfl
theorem E13 (call : FuncId → Fun) (icall : ICall (V × List Ob)) (again : List It → St → Option (V × List Ob)) (a0 : List UInt8) (a1 : List UInt8) (a2 : List V) :
    (envK [V.agg [V.str a0, V.str a1, V.lst 42 false a2]] Tryd.f13.ntmps fun env => runM cfg call icall (slotsOf Tryd.f13.results.toList) (List.length (([] : List Ob) : List Ob)) again (finV cfg Tryd.f13 (finish cfg Tryd.f13 13 (List.map OSh.of (([] : List Ob) : List Ob)))) depth [.code (codeOf Tryd.f13)] ⟨env, ([] : List Ob)⟩) = T13 call (fun i0 s1 s2 l3 s4 s5 l6 s7 s8 l9 => again (tdOf Tryd.f13 0) (K13_0 i0 s1 s2 l3 s4 s5 l6 s7 s8 l9)) a0 a1 a2 := by kernel_rfl
def L13 (call : FuncId → Fun) : Nat → (Int → List UInt8 → List UInt8 → List V → List UInt8 → List UInt8 → List V → List UInt8 → List UInt8 → List V → Option (V × List Ob))
  | 0 => fun _ _ _ _ _ _ _ _ _ _ => none
  | n + 1 => T13_0 call (L13 call n)
theorem R13 (call : FuncId → Fun) (icall : ICall (V × List Ob)) (a0 : List UInt8) (a1 : List UInt8) (a2 : List V) : ∀ n, (∀ (i0 : Int) (s1 : List UInt8) (s2 : List UInt8) (l3 : List V) (s4 : List UInt8) (s5 : List UInt8) (l6 : List V) (s7 : List UInt8) (s8 : List UInt8) (l9 : List V), Go.Ev.runN cfg call icall (slotsOf Tryd.f13.results.toList) (List.length (([] : List Ob) : List Ob)) (finV cfg Tryd.f13 (finish cfg Tryd.f13 13 (List.map OSh.of (([] : List Ob) : List Ob)))) n (tdOf Tryd.f13 0) (K13_0 i0 s1 s2 l3 s4 s5 l6 s7 s8 l9) = (L13 call n) i0 s1 s2 l3 s4 s5 l6 s7 s8 l9)
  | 0 => fun i0 s1 s2 l3 s4 s5 l6 s7 s8 l9 => rfl
  | n + 1 => by
    have ih := R13 call icall a0 a1 a2 n
    exact fun i0 s1 s2 l3 s4 s5 l6 s7 s8 l9 => (S13_0 call icall (Go.Ev.runN cfg call icall (slotsOf Tryd.f13.results.toList) (List.length (([] : List Ob) : List Ob)) (finV cfg Tryd.f13 (finish cfg Tryd.f13 13 (List.map OSh.of (([] : List Ob) : List Ob)))) n) a0 a1 a2 i0 s1 s2 l3 s4 s5 l6 s7 s8 l9).trans (by
      rw [show (fun i0 s1 s2 l3 s4 s5 l6 s7 s8 l9 => Go.Ev.runN cfg call icall (slotsOf Tryd.f13.results.toList) (List.length (([] : List Ob) : List Ob)) (finV cfg Tryd.f13 (finish cfg Tryd.f13 13 (List.map OSh.of (([] : List Ob) : List Ob)))) n (tdOf Tryd.f13 0) (K13_0 i0 s1 s2 l3 s4 s5 l6 s7 s8 l9)) = (L13 call n) from (funext fun i0 => funext fun s1 => funext fun s2 => funext fun l3 => funext fun s4 => funext fun s5 => funext fun l6 => funext fun s7 => funext fun s8 => funext fun l9 => ih i0 s1 s2 l3 s4 s5 l6 s7 s8 l9)]; rfl)
theorem C13 (k : Nat) (a0 : List UInt8) (a1 : List UInt8) (a2 : List V) : callN cfg (k + 1) 13 [V.agg [V.str a0, V.str a1, V.lst 42 false a2]] ([] : List Ob) = T13 (callN cfg k) (L13 (callN cfg k) k) a0 a1 a2 := by
  have ih := R13 (callN cfg k) (icallN cfg (callN cfg k) 20) a0 a1 a2 k
  refine (show callN cfg (k + 1) 13 [V.agg [V.str a0, V.str a1, V.lst 42 false a2]] ([] : List Ob) = (envK [V.agg [V.str a0, V.str a1, V.lst 42 false a2]] Tryd.f13.ntmps fun env => runM cfg (callN cfg k) (icallN cfg (callN cfg k) 20) (slotsOf Tryd.f13.results.toList) (List.length (([] : List Ob) : List Ob)) (Go.Ev.runN cfg (callN cfg k) (icallN cfg (callN cfg k) 20) (slotsOf Tryd.f13.results.toList) (List.length (([] : List Ob) : List Ob)) (finV cfg Tryd.f13 (finish cfg Tryd.f13 13 (List.map OSh.of (([] : List Ob) : List Ob)))) k) (finV cfg Tryd.f13 (finish cfg Tryd.f13 13 (List.map OSh.of (([] : List Ob) : List Ob)))) depth [.code (codeOf Tryd.f13)] ⟨env, ([] : List Ob)⟩) by kernel_rfl).trans ((E13 _ _ _ a0 a1 a2).trans ?_)
  rw [show (fun i0 s1 s2 l3 s4 s5 l6 s7 s8 l9 => Go.Ev.runN cfg (callN cfg k) (icallN cfg (callN cfg k) 20) (slotsOf Tryd.f13.results.toList) (List.length (([] : List Ob) : List Ob)) (finV cfg Tryd.f13 (finish cfg Tryd.f13 13 (List.map OSh.of (([] : List Ob) : List Ob)))) k (tdOf Tryd.f13 0) (K13_0 i0 s1 s2 l3 s4 s5 l6 s7 s8 l9)) = (L13 (callN cfg k) k) from (funext fun i0 => funext fun s1 => funext fun s2 => funext fun l3 => funext fun s4 => funext fun s5 => funext fun l6 => funext fun s7 => funext fun s8 => funext fun l9 => ih i0 s1 s2 l3 s4 s5 l6 s7 s8 l9)]
theorem M13 (a0 : List UInt8) (a1 : List UInt8) (a2 : List V) {r : V × List Ob} (h : Evt (fun k n => T13 (callN cfg k) (L13 (callN cfg k) n) a0 a1 a2) r) : Ret 13 [V.agg [V.str a0, V.str a1, V.lst 42 false a2]] ([] : List Ob) r := ret_mk (g := fun k n => T13 (callN cfg k) (L13 (callN cfg k) n) a0 a1 a2) (fun k => C13 k a0 a1 a2) h
theorem N13_0 (i0 : Int) (s1 : List UInt8) (s2 : List UInt8) (l3 : List V) (s4 : List UInt8) (s5 : List UInt8) (l6 : List V) (s7 : List UInt8) (s8 : List UInt8) (l9 : List V) {r : V × List Ob} (h : Evt (fun k n => T13_0 (callN cfg k) (L13 (callN cfg k) n) i0 s1 s2 l3 s4 s5 l6 s7 s8 l9) r) : Evt (fun k n => (L13 (callN cfg k) n) i0 s1 s2 l3 s4 s5 l6 s7 s8 l9) r := evt_step (g' := fun k n => T13_0 (callN cfg k) (L13 (callN cfg k) n) i0 s1 s2 l3 s4 s5 l6 s7 s8 l9) (fun _k _n => rfl) h

def T15_0 (_call : FuncId → Fun) (ag0 : List UInt8 → List UInt8 → Int → Option (V × List Ob)) (s0 : List UInt8) (s1 : List UInt8) (i2 : Int) : Option (V × List Ob) :=
  if (decide (i2 < ((List.length s0 : Nat) : Int))) = true then
    Option.bind (chk (decide (0 ≤ i2)) (chk (decide (i2 < ((List.length s0 : Nat) : Int))) (if (((UInt8.toNat (List.getD s0 (Int.toNat i2) 0) : Nat) : Int) == (34 : Int)) = false then
        chk (decide (0 ≤ i2)) (chk (decide (i2 < ((List.length s0 : Nat) : Int))) (some (((UInt8.toNat (List.getD s0 (Int.toNat i2) 0) : Nat) : Int) == (92 : Int))))
      else
        some true))) fun b0 =>
    if b0 = true then
      chk (catOk s1 [92]) (chk (decide (0 ≤ (IntKind.wrap IntKind.i64 (i2 + (1 : Int))))) (chk (decide ((IntKind.wrap IntKind.i64 (i2 + (1 : Int))) ≤ ((List.length s0 : Nat) : Int))) (chk (decide (0 ≤ i2)) (chk (decide (i2 ≤ (IntKind.wrap IntKind.i64 (i2 + (1 : Int))))) (chk (catOk (s1 ++ [92]) (List.drop (Int.toNat i2) (List.take (Int.toNat (IntKind.wrap IntKind.i64 (i2 + (1 : Int)))) s0))) ((ag0 (s0) (((s1 ++ [92]) ++ (List.drop (Int.toNat i2) (List.take (Int.toNat (IntKind.wrap IntKind.i64 (i2 + (1 : Int)))) s0)))) ((IntKind.wrap IntKind.i64 (i2 + (1 : Int)))))))))))
    else
      chk (decide (0 ≤ (IntKind.wrap IntKind.i64 (i2 + (1 : Int))))) (chk (decide ((IntKind.wrap IntKind.i64 (i2 + (1 : Int))) ≤ ((List.length s0 : Nat) : Int))) (chk (decide (0 ≤ i2)) (chk (decide (i2 ≤ (IntKind.wrap IntKind.i64 (i2 + (1 : Int))))) (chk (catOk s1 (List.drop (Int.toNat i2) (List.take (Int.toNat (IntKind.wrap IntKind.i64 (i2 + (1 : Int)))) s0))) ((ag0 (s0) ((s1 ++ (List.drop (Int.toNat i2) (List.take (Int.toNat (IntKind.wrap IntKind.i64 (i2 + (1 : Int)))) s0)))) ((IntKind.wrap IntKind.i64 (i2 + (1 : Int))))))))))
  else
    chk (catOk s1 [34]) (some ((V.str (s1 ++ [34])), []))
def T15 (_call : FuncId → Fun) (ag0 : List UInt8 → List UInt8 → Int → Option (V × List Ob)) (a0 : List UInt8) : Option (V × List Ob) :=
  (ag0 (a0) ([34]) ((0 : Int)))
def K15_0 (s0 : List UInt8) (s1 : List UInt8) (i2 : Int) : St := ⟨[(V.str s0), V.bot, V.bot, (V.str s1), (V.int IntKind.i64 i2), V.bot, V.bot, V.bot, V.bot, V.bot, V.bot, V.bot, V.bot, V.bot, V.bot, V.bot, V.bot, V.bot, V.bot, V.bot, V.bot, V.bot, V.bot, V.bot, V.bot, V.bot, V.bot, V.bot, V.bot, V.bot, V.bot, V.bot], []⟩
theorem S15_0 (call : FuncId → Fun) (icall : ICall (V × List Ob)) (again : List It → St → Option (V × List Ob)) (_a0 : List UInt8) (s0 : List UInt8) (s1 : List UInt8) (i2 : Int) :
    runM cfg call icall (slotsOf Tryd.f15.results.toList) (List.length (([] : List Ob) : List Ob)) again (finV cfg Tryd.f15 (finish cfg Tryd.f15 15 (List.map OSh.of (([] : List Ob) : List Ob)))) depth (tdOf Tryd.f15 0) (K15_0 s0 s1 i2) = T15_0 call (fun s0 s1 i2 => again (tdOf Tryd.f15 0) (K15_0 s0 s1 i2)) s0 s1 i2 := by kernel_rfl
theorem E15 (call : FuncId → Fun) (icall : ICall (V × List Ob)) (again : List It → St → Option (V × List Ob)) (a0 : List UInt8) :
    (envK [V.str a0] Tryd.f15.ntmps fun env => runM cfg call icall (slotsOf Tryd.f15.results.toList) (List.length (([] : List Ob) : List Ob)) again (finV cfg Tryd.f15 (finish cfg Tryd.f15 15 (List.map OSh.of (([] : List Ob) : List Ob)))) depth [.code (codeOf Tryd.f15)] ⟨env, ([] : List Ob)⟩) = T15 call (fun s0 s1 i2 => again (tdOf Tryd.f15 0) (K15_0 s0 s1 i2)) a0 := by kernel_rfl
def L15 (call : FuncId → Fun) : Nat → (List UInt8 → List UInt8 → Int → Option (V × List Ob))
  | 0 => fun _ _ _ => none
  | n + 1 => T15_0 call (L15 call n)
theorem R15 (call : FuncId → Fun) (icall : ICall (V × List Ob)) (a0 : List UInt8) : ∀ n, (∀ (s0 : List UInt8) (s1 : List UInt8) (i2 : Int), Go.Ev.runN cfg call icall (slotsOf Tryd.f15.results.toList) (List.length (([] : List Ob) : List Ob)) (finV cfg Tryd.f15 (finish cfg Tryd.f15 15 (List.map OSh.of (([] : List Ob) : List Ob)))) n (tdOf Tryd.f15 0) (K15_0 s0 s1 i2) = (L15 call n) s0 s1 i2)
  | 0 => fun s0 s1 i2 => rfl
  | n + 1 => by
    have ih := R15 call icall a0 n
    exact fun s0 s1 i2 => (S15_0 call icall (Go.Ev.runN cfg call icall (slotsOf Tryd.f15.results.toList) (List.length (([] : List Ob) : List Ob)) (finV cfg Tryd.f15 (finish cfg Tryd.f15 15 (List.map OSh.of (([] : List Ob) : List Ob)))) n) a0 s0 s1 i2).trans (by
      rw [show (fun s0 s1 i2 => Go.Ev.runN cfg call icall (slotsOf Tryd.f15.results.toList) (List.length (([] : List Ob) : List Ob)) (finV cfg Tryd.f15 (finish cfg Tryd.f15 15 (List.map OSh.of (([] : List Ob) : List Ob)))) n (tdOf Tryd.f15 0) (K15_0 s0 s1 i2)) = (L15 call n) from (funext fun s0 => funext fun s1 => funext fun i2 => ih s0 s1 i2)]; rfl)
theorem C15 (k : Nat) (a0 : List UInt8) : callN cfg (k + 1) 15 [V.str a0] ([] : List Ob) = T15 (callN cfg k) (L15 (callN cfg k) k) a0 := by
  have ih := R15 (callN cfg k) (icallN cfg (callN cfg k) 20) a0 k
  refine (show callN cfg (k + 1) 15 [V.str a0] ([] : List Ob) = (envK [V.str a0] Tryd.f15.ntmps fun env => runM cfg (callN cfg k) (icallN cfg (callN cfg k) 20) (slotsOf Tryd.f15.results.toList) (List.length (([] : List Ob) : List Ob)) (Go.Ev.runN cfg (callN cfg k) (icallN cfg (callN cfg k) 20) (slotsOf Tryd.f15.results.toList) (List.length (([] : List Ob) : List Ob)) (finV cfg Tryd.f15 (finish cfg Tryd.f15 15 (List.map OSh.of (([] : List Ob) : List Ob)))) k) (finV cfg Tryd.f15 (finish cfg Tryd.f15 15 (List.map OSh.of (([] : List Ob) : List Ob)))) depth [.code (codeOf Tryd.f15)] ⟨env, ([] : List Ob)⟩) by kernel_rfl).trans ((E15 _ _ _ a0).trans ?_)
  rw [show (fun s0 s1 i2 => Go.Ev.runN cfg (callN cfg k) (icallN cfg (callN cfg k) 20) (slotsOf Tryd.f15.results.toList) (List.length (([] : List Ob) : List Ob)) (finV cfg Tryd.f15 (finish cfg Tryd.f15 15 (List.map OSh.of (([] : List Ob) : List Ob)))) k (tdOf Tryd.f15 0) (K15_0 s0 s1 i2)) = (L15 (callN cfg k) k) from (funext fun s0 => funext fun s1 => funext fun i2 => ih s0 s1 i2)]
theorem M15 (a0 : List UInt8) {r : V × List Ob} (h : Evt (fun k n => T15 (callN cfg k) (L15 (callN cfg k) n) a0) r) : Ret 15 [V.str a0] ([] : List Ob) r := ret_mk (g := fun k n => T15 (callN cfg k) (L15 (callN cfg k) n) a0) (fun k => C15 k a0) h
theorem N15_0 (s0 : List UInt8) (s1 : List UInt8) (i2 : Int) {r : V × List Ob} (h : Evt (fun k n => T15_0 (callN cfg k) (L15 (callN cfg k) n) s0 s1 i2) r) : Evt (fun k n => (L15 (callN cfg k) n) s0 s1 i2) r := evt_step (g' := fun k n => T15_0 (callN cfg k) (L15 (callN cfg k) n) s0 s1 i2) (fun _k _n => rfl) h

def T23_0 (call : FuncId → Fun) (ag0 : List UInt8 → Int → Option (V × List Ob)) (s0 : List UInt8) (i1 : Int) : Option (V × List Ob) :=
  if (decide (i1 < ((List.length s0 : Nat) : Int))) = true then
    chk (decide (0 ≤ i1)) (chk (decide (i1 < ((List.length s0 : Nat) : Int))) (Option.bind (call 41 [(V.int IntKind.u8 ((UInt8.toNat (List.getD s0 (Int.toNat i1) 0) : Nat) : Int))] []) fun p0 =>
    if (!(V.getB p0.1)) = true then
      chk (decide (0 ≤ i1)) (chk (decide (i1 ≤ ((List.length s0 : Nat) : Int))) (chk (decide (0 ≤ (0 : Int))) (chk (decide ((0 : Int) ≤ i1)) (chk (decide (0 ≤ i1)) (chk (decide (i1 ≤ ((List.length s0 : Nat) : Int))) (some ((V.tup [(V.str (List.drop (Int.toNat (0 : Int)) (List.take (Int.toNat i1) s0))), (V.str (List.drop (Int.toNat i1) s0))]), [])))))))
    else
      (ag0 (s0) ((IntKind.wrap IntKind.i64 (i1 + (1 : Int)))))))
  else
    some ((V.tup [(V.str s0), (V.str [])]), [])
def T23 (_call : FuncId → Fun) (ag0 : List UInt8 → Int → Option (V × List Ob)) (a0 : List UInt8) : Option (V × List Ob) :=
  (ag0 (a0) ((0 : Int)))
def K23_0 (s0 : List UInt8) (i1 : Int) : St := ⟨[(V.str s0), V.bot, V.bot, V.bot, (V.int IntKind.i64 i1), V.bot, V.bot, V.bot, V.bot, V.bot, V.bot, V.bot, V.bot, V.bot, V.bot, V.bot, V.bot, V.bot, V.bot, V.bot, V.bot, V.bot, V.bot, V.bot, V.bot], []⟩
theorem S23_0 (call : FuncId → Fun) (icall : ICall (V × List Ob)) (again : List It → St → Option (V × List Ob)) (_a0 : List UInt8) (s0 : List UInt8) (i1 : Int) :
    runM cfg call icall (slotsOf Tryd.f23.results.toList) (List.length (([] : List Ob) : List Ob)) again (finV cfg Tryd.f23 (finish cfg Tryd.f23 23 (List.map OSh.of (([] : List Ob) : List Ob)))) depth (tdOf Tryd.f23 0) (K23_0 s0 i1) = T23_0 call (fun s0 i1 => again (tdOf Tryd.f23 0) (K23_0 s0 i1)) s0 i1 := by kernel_rfl
theorem E23 (call : FuncId → Fun) (icall : ICall (V × List Ob)) (again : List It → St → Option (V × List Ob)) (a0 : List UInt8) :
    (envK [V.str a0] Tryd.f23.ntmps fun env => runM cfg call icall (slotsOf Tryd.f23.results.toList) (List.length (([] : List Ob) : List Ob)) again (finV cfg Tryd.f23 (finish cfg Tryd.f23 23 (List.map OSh.of (([] : List Ob) : List Ob)))) depth [.code (codeOf Tryd.f23)] ⟨env, ([] : List Ob)⟩) = T23 call (fun s0 i1 => again (tdOf Tryd.f23 0) (K23_0 s0 i1)) a0 := by kernel_rfl
def L23 (call : FuncId → Fun) : Nat → (List UInt8 → Int → Option (V × List Ob))
  | 0 => fun _ _ => none
  | n + 1 => T23_0 call (L23 call n)
theorem R23 (call : FuncId → Fun) (icall : ICall (V × List Ob)) (a0 : List UInt8) : ∀ n, (∀ (s0 : List UInt8) (i1 : Int), Go.Ev.runN cfg call icall (slotsOf Tryd.f23.results.toList) (List.length (([] : List Ob) : List Ob)) (finV cfg Tryd.f23 (finish cfg Tryd.f23 23 (List.map OSh.of (([] : List Ob) : List Ob)))) n (tdOf Tryd.f23 0) (K23_0 s0 i1) = (L23 call n) s0 i1)
  | 0 => fun s0 i1 => rfl
  | n + 1 => by
    have ih := R23 call icall a0 n
    exact fun s0 i1 => (S23_0 call icall (Go.Ev.runN cfg call icall (slotsOf Tryd.f23.results.toList) (List.length (([] : List Ob) : List Ob)) (finV cfg Tryd.f23 (finish cfg Tryd.f23 23 (List.map OSh.of (([] : List Ob) : List Ob)))) n) a0 s0 i1).trans (by
      rw [show (fun s0 i1 => Go.Ev.runN cfg call icall (slotsOf Tryd.f23.results.toList) (List.length (([] : List Ob) : List Ob)) (finV cfg Tryd.f23 (finish cfg Tryd.f23 23 (List.map OSh.of (([] : List Ob) : List Ob)))) n (tdOf Tryd.f23 0) (K23_0 s0 i1)) = (L23 call n) from (funext fun s0 => funext fun i1 => ih s0 i1)]; rfl)
theorem C23 (k : Nat) (a0 : List UInt8) : callN cfg (k + 1) 23 [V.str a0] ([] : List Ob) = T23 (callN cfg k) (L23 (callN cfg k) k) a0 := by
  have ih := R23 (callN cfg k) (icallN cfg (callN cfg k) 20) a0 k
  refine (show callN cfg (k + 1) 23 [V.str a0] ([] : List Ob) = (envK [V.str a0] Tryd.f23.ntmps fun env => runM cfg (callN cfg k) (icallN cfg (callN cfg k) 20) (slotsOf Tryd.f23.results.toList) (List.length (([] : List Ob) : List Ob)) (Go.Ev.runN cfg (callN cfg k) (icallN cfg (callN cfg k) 20) (slotsOf Tryd.f23.results.toList) (List.length (([] : List Ob) : List Ob)) (finV cfg Tryd.f23 (finish cfg Tryd.f23 23 (List.map OSh.of (([] : List Ob) : List Ob)))) k) (finV cfg Tryd.f23 (finish cfg Tryd.f23 23 (List.map OSh.of (([] : List Ob) : List Ob)))) depth [.code (codeOf Tryd.f23)] ⟨env, ([] : List Ob)⟩) by kernel_rfl).trans ((E23 _ _ _ a0).trans ?_)
  rw [show (fun s0 i1 => Go.Ev.runN cfg (callN cfg k) (icallN cfg (callN cfg k) 20) (slotsOf Tryd.f23.results.toList) (List.length (([] : List Ob) : List Ob)) (finV cfg Tryd.f23 (finish cfg Tryd.f23 23 (List.map OSh.of (([] : List Ob) : List Ob)))) k (tdOf Tryd.f23 0) (K23_0 s0 i1)) = (L23 (callN cfg k) k) from (funext fun s0 => funext fun i1 => ih s0 i1)]
theorem M23 (a0 : List UInt8) {r : V × List Ob} (h : Evt (fun k n => T23 (callN cfg k) (L23 (callN cfg k) n) a0) r) : Ret 23 [V.str a0] ([] : List Ob) r := ret_mk (g := fun k n => T23 (callN cfg k) (L23 (callN cfg k) n) a0) (fun k => C23 k a0) h
theorem N23_0 (s0 : List UInt8) (i1 : Int) {r : V × List Ob} (h : Evt (fun k n => T23_0 (callN cfg k) (L23 (callN cfg k) n) s0 i1) r) : Evt (fun k n => (L23 (callN cfg k) n) s0 i1) r := evt_step (g' := fun k n => T23_0 (callN cfg k) (L23 (callN cfg k) n) s0 i1) (fun _k _n => rfl) h

def T24_0 (call : FuncId → Fun) (ag0 : List UInt8 → Option (V × List Ob)) (s0 : List UInt8) : Option (V × List Ob) :=
  if (!(sEq s0 [])) = true then
    chk (decide (0 ≤ (0 : Int))) (chk (decide ((0 : Int) < ((List.length s0 : Nat) : Int))) (if (((UInt8.toNat (List.getD s0 (Int.toNat (0 : Int)) 0) : Nat) : Int) == (40 : Int)) = true then
      Option.bind (call 42 [(V.str s0)] []) fun p0 =>
      (ag0 ((V.getS p0.1)))
    else
      Option.bind (chk (decide (0 ≤ (0 : Int))) (chk (decide ((0 : Int) < ((List.length s0 : Nat) : Int))) (if (((UInt8.toNat (List.getD s0 (Int.toNat (0 : Int)) 0) : Nat) : Int) == (32 : Int)) = false then
          chk (decide (0 ≤ (0 : Int))) (chk (decide ((0 : Int) < ((List.length s0 : Nat) : Int))) (some (((UInt8.toNat (List.getD s0 (Int.toNat (0 : Int)) 0) : Nat) : Int) == (9 : Int))))
        else
          some true))) fun b0 =>
      if b0 = true then
        chk (decide (0 ≤ (1 : Int))) (chk (decide ((1 : Int) ≤ ((List.length s0 : Nat) : Int))) ((ag0 ((List.drop (Int.toNat (1 : Int)) s0)))))
      else
        some ((V.str s0), [])))
  else
    some ((V.str s0), [])
def T24 (_call : FuncId → Fun) (ag0 : List UInt8 → Option (V × List Ob)) (a0 : List UInt8) : Option (V × List Ob) :=
  (ag0 (a0))
def K24_0 (s0 : List UInt8) : St := ⟨[(V.str s0), V.bot, V.bot, V.bot, V.bot, V.bot, V.bot, V.bot, V.bot, V.bot, V.bot, V.bot, V.bot, V.bot, V.bot, V.bot, V.bot, V.bot, V.bot, V.bot, V.bot, V.bot], []⟩
theorem S24_0 (call : FuncId → Fun) (icall : ICall (V × List Ob)) (again : List It → St → Option (V × List Ob)) (_a0 : List UInt8) (s0 : List UInt8) :
    runM cfg call icall (slotsOf Tryd.f24.results.toList) (List.length (([] : List Ob) : List Ob)) again (finV cfg Tryd.f24 (finish cfg Tryd.f24 24 (List.map OSh.of (([] : List Ob) : List Ob)))) depth (tdOf Tryd.f24 0) (K24_0 s0) = T24_0 call (fun s0 => again (tdOf Tryd.f24 0) (K24_0 s0)) s0 := by kernel_rfl
theorem E24 (call : FuncId → Fun) (icall : ICall (V × List Ob)) (again : List It → St → Option (V × List Ob)) (a0 : List UInt8) :
    (envK [V.str a0] Tryd.f24.ntmps fun env => runM cfg call icall (slotsOf Tryd.f24.results.toList) (List.length (([] : List Ob) : List Ob)) again (finV cfg Tryd.f24 (finish cfg Tryd.f24 24 (List.map OSh.of (([] : List Ob) : List Ob)))) depth [.code (codeOf Tryd.f24)] ⟨env, ([] : List Ob)⟩) = T24 call (fun s0 => again (tdOf Tryd.f24 0) (K24_0 s0)) a0 := by kernel_rfl
def L24 (call : FuncId → Fun) : Nat → (List UInt8 → Option (V × List Ob))
  | 0 => fun _ => none
  | n + 1 => T24_0 call (L24 call n)
theorem R24 (call : FuncId → Fun) (icall : ICall (V × List Ob)) (a0 : List UInt8) : ∀ n, (∀ (s0 : List UInt8), Go.Ev.runN cfg call icall (slotsOf Tryd.f24.results.toList) (List.length (([] : List Ob) : List Ob)) (finV cfg Tryd.f24 (finish cfg Tryd.f24 24 (List.map OSh.of (([] : List Ob) : List Ob)))) n (tdOf Tryd.f24 0) (K24_0 s0) = (L24 call n) s0)
  | 0 => fun s0 => rfl
  | n + 1 => by
    have ih := R24 call icall a0 n
    exact fun s0 => (S24_0 call icall (Go.Ev.runN cfg call icall (slotsOf Tryd.f24.results.toList) (List.length (([] : List Ob) : List Ob)) (finV cfg Tryd.f24 (finish cfg Tryd.f24 24 (List.map OSh.of (([] : List Ob) : List Ob)))) n) a0 s0).trans (by
      rw [show (fun s0 => Go.Ev.runN cfg call icall (slotsOf Tryd.f24.results.toList) (List.length (([] : List Ob) : List Ob)) (finV cfg Tryd.f24 (finish cfg Tryd.f24 24 (List.map OSh.of (([] : List Ob) : List Ob)))) n (tdOf Tryd.f24 0) (K24_0 s0)) = (L24 call n) from (funext fun s0 => ih s0)]; rfl)
theorem C24 (k : Nat) (a0 : List UInt8) : callN cfg (k + 1) 24 [V.str a0] ([] : List Ob) = T24 (callN cfg k) (L24 (callN cfg k) k) a0 := by
  have ih := R24 (callN cfg k) (icallN cfg (callN cfg k) 20) a0 k
  refine (show callN cfg (k + 1) 24 [V.str a0] ([] : List Ob) = (envK [V.str a0] Tryd.f24.ntmps fun env => runM cfg (callN cfg k) (icallN cfg (callN cfg k) 20) (slotsOf Tryd.f24.results.toList) (List.length (([] : List Ob) : List Ob)) (Go.Ev.runN cfg (callN cfg k) (icallN cfg (callN cfg k) 20) (slotsOf Tryd.f24.results.toList) (List.length (([] : List Ob) : List Ob)) (finV cfg Tryd.f24 (finish cfg Tryd.f24 24 (List.map OSh.of (([] : List Ob) : List Ob)))) k) (finV cfg Tryd.f24 (finish cfg Tryd.f24 24 (List.map OSh.of (([] : List Ob) : List Ob)))) depth [.code (codeOf Tryd.f24)] ⟨env, ([] : List Ob)⟩) by kernel_rfl).trans ((E24 _ _ _ a0).trans ?_)
  rw [show (fun s0 => Go.Ev.runN cfg (callN cfg k) (icallN cfg (callN cfg k) 20) (slotsOf Tryd.f24.results.toList) (List.length (([] : List Ob) : List Ob)) (finV cfg Tryd.f24 (finish cfg Tryd.f24 24 (List.map OSh.of (([] : List Ob) : List Ob)))) k (tdOf Tryd.f24 0) (K24_0 s0)) = (L24 (callN cfg k) k) from (funext fun s0 => ih s0)]
theorem M24 (a0 : List UInt8) {r : V × List Ob} (h : Evt (fun k n => T24 (callN cfg k) (L24 (callN cfg k) n) a0) r) : Ret 24 [V.str a0] ([] : List Ob) r := ret_mk (g := fun k n => T24 (callN cfg k) (L24 (callN cfg k) n) a0) (fun k => C24 k a0) h
theorem N24_0 (s0 : List UInt8) {r : V × List Ob} (h : Evt (fun k n => T24_0 (callN cfg k) (L24 (callN cfg k) n) s0) r) : Evt (fun k n => (L24 (callN cfg k) n) s0) r := evt_step (g' := fun k n => T24_0 (callN cfg k) (L24 (callN cfg k) n) s0) (fun _k _n => rfl) h

def T25_0 (call : FuncId → Fun) (ag0 : List UInt8 → List V → Int → Option (V × List Ob)) (s0 : List UInt8) (l1 : List V) (i2 : Int) : Option (V × List Ob) :=
  if (decide (i2 < ((List.length s0 : Nat) : Int))) = true then
    chk (decide (0 ≤ i2)) (chk (decide (i2 < ((List.length s0 : Nat) : Int))) (Option.bind (call 43 [(V.int IntKind.u8 ((UInt8.toNat (List.getD s0 (Int.toNat i2) 0) : Nat) : Int))] []) fun p0 =>
    chk (appOk l1 [(V.int IntKind.u8 (V.getI p0.1))] 2) ((ag0 (s0) ((l1 ++ [(V.int IntKind.u8 (V.getI p0.1))])) ((IntKind.wrap IntKind.i64 (i2 + (1 : Int))))))))
  else
    some ((V.str (bytesOf l1)), [])
def T25 (_call : FuncId → Fun) (ag0 : List UInt8 → List V → Int → Option (V × List Ob)) (a0 : List UInt8) : Option (V × List Ob) :=
  (ag0 (a0) ([]) ((0 : Int)))
def K25_0 (s0 : List UInt8) (l1 : List V) (i2 : Int) : St := ⟨[(V.str s0), V.bot, V.bot, (V.lst 5 true l1), (V.int IntKind.i64 i2), V.bot, V.bot, V.bot, V.bot, V.bot, V.bot, V.bot, V.bot, V.bot, V.bot, V.bot, V.bot, V.bot, V.bot, V.bot], []⟩
theorem S25_0 (call : FuncId → Fun) (icall : ICall (V × List Ob)) (again : List It → St → Option (V × List Ob)) (_a0 : List UInt8) (s0 : List UInt8) (l1 : List V) (i2 : Int) :
    runM cfg call icall (slotsOf Tryd.f25.results.toList) (List.length (([] : List Ob) : List Ob)) again (finV cfg Tryd.f25 (finish cfg Tryd.f25 25 (List.map OSh.of (([] : List Ob) : List Ob)))) depth (tdOf Tryd.f25 0) (K25_0 s0 l1 i2) = T25_0 call (fun s0 l1 i2 => again (tdOf Tryd.f25 0) (K25_0 s0 l1 i2)) s0 l1 i2 := by kernel_rfl
theorem E25 (call : FuncId → Fun) (icall : ICall (V × List Ob)) (again : List It → St → Option (V × List Ob)) (a0 : List UInt8) :
    (envK [V.str a0] Tryd.f25.ntmps fun env => runM cfg call icall (slotsOf Tryd.f25.results.toList) (List.length (([] : List Ob) : List Ob)) again (finV cfg Tryd.f25 (finish cfg Tryd.f25 25 (List.map OSh.of (([] : List Ob) : List Ob)))) depth [.code (codeOf Tryd.f25)] ⟨env, ([] : List Ob)⟩) = T25 call (fun s0 l1 i2 => again (tdOf Tryd.f25 0) (K25_0 s0 l1 i2)) a0 := by kernel_rfl
def L25 (call : FuncId → Fun) : Nat → (List UInt8 → List V → Int → Option (V × List Ob))
  | 0 => fun _ _ _ => none
  | n + 1 => T25_0 call (L25 call n)
theorem R25 (call : FuncId → Fun) (icall : ICall (V × List Ob)) (a0 : List UInt8) : ∀ n, (∀ (s0 : List UInt8) (l1 : List V) (i2 : Int), Go.Ev.runN cfg call icall (slotsOf Tryd.f25.results.toList) (List.length (([] : List Ob) : List Ob)) (finV cfg Tryd.f25 (finish cfg Tryd.f25 25 (List.map OSh.of (([] : List Ob) : List Ob)))) n (tdOf Tryd.f25 0) (K25_0 s0 l1 i2) = (L25 call n) s0 l1 i2)
  | 0 => fun s0 l1 i2 => rfl
  | n + 1 => by
    have ih := R25 call icall a0 n
    exact fun s0 l1 i2 => (S25_0 call icall (Go.Ev.runN cfg call icall (slotsOf Tryd.f25.results.toList) (List.length (([] : List Ob) : List Ob)) (finV cfg Tryd.f25 (finish cfg Tryd.f25 25 (List.map OSh.of (([] : List Ob) : List Ob)))) n) a0 s0 l1 i2).trans (by
      rw [show (fun s0 l1 i2 => Go.Ev.runN cfg call icall (slotsOf Tryd.f25.results.toList) (List.length (([] : List Ob) : List Ob)) (finV cfg Tryd.f25 (finish cfg Tryd.f25 25 (List.map OSh.of (([] : List Ob) : List Ob)))) n (tdOf Tryd.f25 0) (K25_0 s0 l1 i2)) = (L25 call n) from (funext fun s0 => funext fun l1 => funext fun i2 => ih s0 l1 i2)]; rfl)
theorem C25 (k : Nat) (a0 : List UInt8) : callN cfg (k + 1) 25 [V.str a0] ([] : List Ob) = T25 (callN cfg k) (L25 (callN cfg k) k) a0 := by
  have ih := R25 (callN cfg k) (icallN cfg (callN cfg k) 20) a0 k
  refine (show callN cfg (k + 1) 25 [V.str a0] ([] : List Ob) = (envK [V.str a0] Tryd.f25.ntmps fun env => runM cfg (callN cfg k) (icallN cfg (callN cfg k) 20) (slotsOf Tryd.f25.results.toList) (List.length (([] : List Ob) : List Ob)) (Go.Ev.runN cfg (callN cfg k) (icallN cfg (callN cfg k) 20) (slotsOf Tryd.f25.results.toList) (List.length (([] : List Ob) : List Ob)) (finV cfg Tryd.f25 (finish cfg Tryd.f25 25 (List.map OSh.of (([] : List Ob) : List Ob)))) k) (finV cfg Tryd.f25 (finish cfg Tryd.f25 25 (List.map OSh.of (([] : List Ob) : List Ob)))) depth [.code (codeOf Tryd.f25)] ⟨env, ([] : List Ob)⟩) by kernel_rfl).trans ((E25 _ _ _ a0).trans ?_)
  rw [show (fun s0 l1 i2 => Go.Ev.runN cfg (callN cfg k) (icallN cfg (callN cfg k) 20) (slotsOf Tryd.f25.results.toList) (List.length (([] : List Ob) : List Ob)) (finV cfg Tryd.f25 (finish cfg Tryd.f25 25 (List.map OSh.of (([] : List Ob) : List Ob)))) k (tdOf Tryd.f25 0) (K25_0 s0 l1 i2)) = (L25 (callN cfg k) k) from (funext fun s0 => funext fun l1 => funext fun i2 => ih s0 l1 i2)]
theorem M25 (a0 : List UInt8) {r : V × List Ob} (h : Evt (fun k n => T25 (callN cfg k) (L25 (callN cfg k) n) a0) r) : Ret 25 [V.str a0] ([] : List Ob) r := ret_mk (g := fun k n => T25 (callN cfg k) (L25 (callN cfg k) n) a0) (fun k => C25 k a0) h
theorem N25_0 (s0 : List UInt8) (l1 : List V) (i2 : Int) {r : V × List Ob} (h : Evt (fun k n => T25_0 (callN cfg k) (L25 (callN cfg k) n) s0 l1 i2) r) : Evt (fun k n => (L25 (callN cfg k) n) s0 l1 i2) r := evt_step (g' := fun k n => T25_0 (callN cfg k) (L25 (callN cfg k) n) s0 l1 i2) (fun _k _n => rfl) h

def T26_0 (call : FuncId → Fun) (ag0 : List UInt8 → List V → Option (V × List Ob)) (s0 : List UInt8) (l1 : List V) : Option (V × List Ob) :=
  Option.bind (call 24 [(V.str s0)] []) fun p0 =>
  Option.bind (if (sEq (V.getS p0.1) []) = false then
      chk (decide (0 ≤ (0 : Int))) (chk (decide ((0 : Int) < ((List.length (V.getS p0.1) : Nat) : Int))) (some (((UInt8.toNat (List.getD (V.getS p0.1) (Int.toNat (0 : Int)) 0) : Nat) : Int) != (59 : Int))))
    else
      some true) fun b1 =>
  if b1 = true then
    some ((V.lst 62 false l1), [])
  else
    chk (decide (0 ≤ (1 : Int))) (chk (decide ((1 : Int) ≤ ((List.length (V.getS p0.1) : Nat) : Int))) (Option.bind (call 24 [(V.str (List.drop (Int.toNat (1 : Int)) (V.getS p0.1)))] []) fun p2 =>
    Option.bind (call 23 [(V.str (V.getS p2.1))] []) fun p3 =>
    Option.bind (call 24 [(V.str (V.getS (List.headD (List.tail (V.getT p3.1)) V.bot)))] []) fun p4 =>
    Option.bind (if (sEq (V.getS (List.headD (V.getT p3.1) V.bot)) []) = false then
        if (sEq (V.getS p4.1) []) = false then
          chk (decide (0 ≤ (0 : Int))) (chk (decide ((0 : Int) < ((List.length (V.getS p4.1) : Nat) : Int))) (some (((UInt8.toNat (List.getD (V.getS p4.1) (Int.toNat (0 : Int)) 0) : Nat) : Int) != (61 : Int))))
        else
          some true
      else
        some true) fun b5 =>
    if b5 = true then
      some ((V.lst 62 false l1), [])
    else
      chk (decide (0 ≤ (1 : Int))) (chk (decide ((1 : Int) ≤ ((List.length (V.getS p4.1) : Nat) : Int))) (Option.bind (call 24 [(V.str (List.drop (Int.toNat (1 : Int)) (V.getS p4.1)))] []) fun p6 =>
      Option.bind (if (!(sEq (V.getS p6.1) [])) = true then
          chk (decide (0 ≤ (0 : Int))) (chk (decide ((0 : Int) < ((List.length (V.getS p6.1) : Nat) : Int))) (some (((UInt8.toNat (List.getD (V.getS p6.1) (Int.toNat (0 : Int)) 0) : Nat) : Int) == (34 : Int))))
        else
          some false) fun b7 =>
      if b7 = true then
        Option.bind (call 44 [(V.str (V.getS p6.1))] []) fun p8 =>
        if (!(V.getB (List.headD (List.tail (List.tail (V.getT p8.1))) V.bot))) = true then
          some ((V.lst 62 false l1), [])
        else
          Option.bind (call 25 [(V.str (V.getS (List.headD (V.getT p3.1) V.bot)))] []) fun p9 =>
          chk (appOk l1 [(V.agg [(V.str (V.getS p9.1)), (V.str (V.getS (List.headD (V.getT p8.1) V.bot)))])] 33) ((ag0 ((V.getS (List.headD (List.tail (V.getT p8.1)) V.bot))) ((l1 ++ [(V.agg [(V.str (V.getS p9.1)), (V.str (V.getS (List.headD (V.getT p8.1) V.bot)))])]))))
      else
        Option.bind (call 23 [(V.str (V.getS p6.1))] []) fun p8 =>
        if (sEq (V.getS (List.headD (V.getT p8.1) V.bot)) []) = true then
          some ((V.lst 62 false l1), [])
        else
          Option.bind (call 25 [(V.str (V.getS (List.headD (V.getT p3.1) V.bot)))] []) fun p9 =>
          chk (appOk l1 [(V.agg [(V.str (V.getS p9.1)), (V.str (V.getS (List.headD (V.getT p8.1) V.bot)))])] 33) ((ag0 ((V.getS (List.headD (List.tail (V.getT p8.1)) V.bot))) ((l1 ++ [(V.agg [(V.str (V.getS p9.1)), (V.str (V.getS (List.headD (V.getT p8.1) V.bot)))])]))))))))
def T26 (_call : FuncId → Fun) (ag0 : List UInt8 → List V → Option (V × List Ob)) (a0 : List UInt8) : Option (V × List Ob) :=
  (ag0 (a0) ([]))
def K26_0 (s0 : List UInt8) (l1 : List V) : St := ⟨[(V.str s0), V.bot, V.bot, (V.lst 62 true l1), V.bot, V.bot, V.bot, V.bot, V.bot, V.bot, V.bot, V.bot, V.bot, V.bot, V.bot, V.bot, V.bot, V.bot, V.bot, V.bot, V.bot, V.bot, V.bot, V.bot, V.bot, V.bot, V.bot, V.bot, V.bot, V.bot, V.bot, V.bot, V.bot, V.bot, V.bot, V.bot, V.bot, V.bot, V.bot, V.bot, V.bot, V.bot, V.bot, V.bot, V.bot, V.bot, V.bot, V.bot, V.bot, V.bot, V.bot, V.bot, V.bot, V.bot, V.bot, V.bot, V.bot, V.bot, V.bot, V.bot, V.bot, V.bot, V.bot, V.bot, V.bot, V.bot, V.bot, V.bot, V.bot, V.bot, V.bot, V.bot, V.bot, V.bot, V.bot, V.bot, V.bot], []⟩
theorem S26_0 (call : FuncId → Fun) (icall : ICall (V × List Ob)) (again : List It → St → Option (V × List Ob)) (_a0 : List UInt8) (s0 : List UInt8) (l1 : List V) :
    runM cfg call icall (slotsOf Tryd.f26.results.toList) (List.length (([] : List Ob) : List Ob)) again (finV cfg Tryd.f26 (finish cfg Tryd.f26 26 (List.map OSh.of (([] : List Ob) : List Ob)))) depth (tdOf Tryd.f26 0) (K26_0 s0 l1) = T26_0 call (fun s0 l1 => again (tdOf Tryd.f26 0) (K26_0 s0 l1)) s0 l1 := by kernel_rfl
theorem E26 (call : FuncId → Fun) (icall : ICall (V × List Ob)) (again : List It → St → Option (V × List Ob)) (a0 : List UInt8) :
    (envK [V.str a0] Tryd.f26.ntmps fun env => runM cfg call icall (slotsOf Tryd.f26.results.toList) (List.length (([] : List Ob) : List Ob)) again (finV cfg Tryd.f26 (finish cfg Tryd.f26 26 (List.map OSh.of (([] : List Ob) : List Ob)))) depth [.code (codeOf Tryd.f26)] ⟨env, ([] : List Ob)⟩) = T26 call (fun s0 l1 => again (tdOf Tryd.f26 0) (K26_0 s0 l1)) a0 := by kernel_rfl
def L26 (call : FuncId → Fun) : Nat → (List UInt8 → List V → Option (V × List Ob))
  | 0 => fun _ _ => none
  | n + 1 => T26_0 call (L26 call n)
theorem R26 (call : FuncId → Fun) (icall : ICall (V × List Ob)) (a0 : List UInt8) : ∀ n, (∀ (s0 : List UInt8) (l1 : List V), Go.Ev.runN cfg call icall (slotsOf Tryd.f26.results.toList) (List.length (([] : List Ob) : List Ob)) (finV cfg Tryd.f26 (finish cfg Tryd.f26 26 (List.map OSh.of (([] : List Ob) : List Ob)))) n (tdOf Tryd.f26 0) (K26_0 s0 l1) = (L26 call n) s0 l1)
  | 0 => fun s0 l1 => rfl
  | n + 1 => by
    have ih := R26 call icall a0 n
    exact fun s0 l1 => (S26_0 call icall (Go.Ev.runN cfg call icall (slotsOf Tryd.f26.results.toList) (List.length (([] : List Ob) : List Ob)) (finV cfg Tryd.f26 (finish cfg Tryd.f26 26 (List.map OSh.of (([] : List Ob) : List Ob)))) n) a0 s0 l1).trans (by
      rw [show (fun s0 l1 => Go.Ev.runN cfg call icall (slotsOf Tryd.f26.results.toList) (List.length (([] : List Ob) : List Ob)) (finV cfg Tryd.f26 (finish cfg Tryd.f26 26 (List.map OSh.of (([] : List Ob) : List Ob)))) n (tdOf Tryd.f26 0) (K26_0 s0 l1)) = (L26 call n) from (funext fun s0 => funext fun l1 => ih s0 l1)]; rfl)
theorem C26 (k : Nat) (a0 : List UInt8) : callN cfg (k + 1) 26 [V.str a0] ([] : List Ob) = T26 (callN cfg k) (L26 (callN cfg k) k) a0 := by
  have ih := R26 (callN cfg k) (icallN cfg (callN cfg k) 20) a0 k
  refine (show callN cfg (k + 1) 26 [V.str a0] ([] : List Ob) = (envK [V.str a0] Tryd.f26.ntmps fun env => runM cfg (callN cfg k) (icallN cfg (callN cfg k) 20) (slotsOf Tryd.f26.results.toList) (List.length (([] : List Ob) : List Ob)) (Go.Ev.runN cfg (callN cfg k) (icallN cfg (callN cfg k) 20) (slotsOf Tryd.f26.results.toList) (List.length (([] : List Ob) : List Ob)) (finV cfg Tryd.f26 (finish cfg Tryd.f26 26 (List.map OSh.of (([] : List Ob) : List Ob)))) k) (finV cfg Tryd.f26 (finish cfg Tryd.f26 26 (List.map OSh.of (([] : List Ob) : List Ob)))) depth [.code (codeOf Tryd.f26)] ⟨env, ([] : List Ob)⟩) by kernel_rfl).trans ((E26 _ _ _ a0).trans ?_)
  rw [show (fun s0 l1 => Go.Ev.runN cfg (callN cfg k) (icallN cfg (callN cfg k) 20) (slotsOf Tryd.f26.results.toList) (List.length (([] : List Ob) : List Ob)) (finV cfg Tryd.f26 (finish cfg Tryd.f26 26 (List.map OSh.of (([] : List Ob) : List Ob)))) k (tdOf Tryd.f26 0) (K26_0 s0 l1)) = (L26 (callN cfg k) k) from (funext fun s0 => funext fun l1 => ih s0 l1)]
theorem M26 (a0 : List UInt8) {r : V × List Ob} (h : Evt (fun k n => T26 (callN cfg k) (L26 (callN cfg k) n) a0) r) : Ret 26 [V.str a0] ([] : List Ob) r := ret_mk (g := fun k n => T26 (callN cfg k) (L26 (callN cfg k) n) a0) (fun k => C26 k a0) h
theorem N26_0 (s0 : List UInt8) (l1 : List V) {r : V × List Ob} (h : Evt (fun k n => T26_0 (callN cfg k) (L26 (callN cfg k) n) s0 l1) r) : Evt (fun k n => (L26 (callN cfg k) n) s0 l1) r := evt_step (g' := fun k n => T26_0 (callN cfg k) (L26 (callN cfg k) n) s0 l1) (fun _k _n => rfl) h

def T27_0 (_call : FuncId → Fun) (ag0 : List UInt8 → Int → Option (V × List Ob)) (s0 : List UInt8) (i1 : Int) : Option (V × List Ob) :=
  if (decide (i1 < ((List.length s0 : Nat) : Int))) = true then
    chk (decide (0 ≤ i1)) (chk (decide (i1 < ((List.length s0 : Nat) : Int))) (if (((UInt8.toNat (List.getD s0 (Int.toNat i1) 0) : Nat) : Int) == (42 : Int)) = true then
      chk (decide (0 ≤ i1)) (chk (decide (i1 ≤ ((List.length s0 : Nat) : Int))) (chk (decide (0 ≤ (0 : Int))) (chk (decide ((0 : Int) ≤ i1)) (some ((V.str (List.drop (Int.toNat (0 : Int)) (List.take (Int.toNat i1) s0))), [])))))
    else
      (ag0 (s0) ((IntKind.wrap IntKind.i64 (i1 + (1 : Int)))))))
  else
    some ((V.str s0), [])
def T27 (_call : FuncId → Fun) (ag0 : List UInt8 → Int → Option (V × List Ob)) (a0 : List UInt8) : Option (V × List Ob) :=
  (ag0 (a0) ((0 : Int)))
def K27_0 (s0 : List UInt8) (i1 : Int) : St := ⟨[(V.str s0), V.bot, V.bot, (V.int IntKind.i64 i1), V.bot, V.bot, V.bot, V.bot, V.bot, V.bot, V.bot, V.bot, V.bot, V.bot, V.bot, V.bot, V.bot, V.bot], []⟩
theorem S27_0 (call : FuncId → Fun) (icall : ICall (V × List Ob)) (again : List It → St → Option (V × List Ob)) (_a0 : List UInt8) (s0 : List UInt8) (i1 : Int) :
    runM cfg call icall (slotsOf Tryd.f27.results.toList) (List.length (([] : List Ob) : List Ob)) again (finV cfg Tryd.f27 (finish cfg Tryd.f27 27 (List.map OSh.of (([] : List Ob) : List Ob)))) depth (tdOf Tryd.f27 0) (K27_0 s0 i1) = T27_0 call (fun s0 i1 => again (tdOf Tryd.f27 0) (K27_0 s0 i1)) s0 i1 := by kernel_rfl
theorem E27 (call : FuncId → Fun) (icall : ICall (V × List Ob)) (again : List It → St → Option (V × List Ob)) (a0 : List UInt8) :
    (envK [V.str a0] Tryd.f27.ntmps fun env => runM cfg call icall (slotsOf Tryd.f27.results.toList) (List.length (([] : List Ob) : List Ob)) again (finV cfg Tryd.f27 (finish cfg Tryd.f27 27 (List.map OSh.of (([] : List Ob) : List Ob)))) depth [.code (codeOf Tryd.f27)] ⟨env, ([] : List Ob)⟩) = T27 call (fun s0 i1 => again (tdOf Tryd.f27 0) (K27_0 s0 i1)) a0 := by kernel_rfl
def L27 (call : FuncId → Fun) : Nat → (List UInt8 → Int → Option (V × List Ob))
  | 0 => fun _ _ => none
  | n + 1 => T27_0 call (L27 call n)
theorem R27 (call : FuncId → Fun) (icall : ICall (V × List Ob)) (a0 : List UInt8) : ∀ n, (∀ (s0 : List UInt8) (i1 : Int), Go.Ev.runN cfg call icall (slotsOf Tryd.f27.results.toList) (List.length (([] : List Ob) : List Ob)) (finV cfg Tryd.f27 (finish cfg Tryd.f27 27 (List.map OSh.of (([] : List Ob) : List Ob)))) n (tdOf Tryd.f27 0) (K27_0 s0 i1) = (L27 call n) s0 i1)
  | 0 => fun s0 i1 => rfl
  | n + 1 => by
    have ih := R27 call icall a0 n
    exact fun s0 i1 => (S27_0 call icall (Go.Ev.runN cfg call icall (slotsOf Tryd.f27.results.toList) (List.length (([] : List Ob) : List Ob)) (finV cfg Tryd.f27 (finish cfg Tryd.f27 27 (List.map OSh.of (([] : List Ob) : List Ob)))) n) a0 s0 i1).trans (by
      rw [show (fun s0 i1 => Go.Ev.runN cfg call icall (slotsOf Tryd.f27.results.toList) (List.length (([] : List Ob) : List Ob)) (finV cfg Tryd.f27 (finish cfg Tryd.f27 27 (List.map OSh.of (([] : List Ob) : List Ob)))) n (tdOf Tryd.f27 0) (K27_0 s0 i1)) = (L27 call n) from (funext fun s0 => funext fun i1 => ih s0 i1)]; rfl)
theorem C27 (k : Nat) (a0 : List UInt8) : callN cfg (k + 1) 27 [V.str a0] ([] : List Ob) = T27 (callN cfg k) (L27 (callN cfg k) k) a0 := by
  have ih := R27 (callN cfg k) (icallN cfg (callN cfg k) 20) a0 k
  refine (show callN cfg (k + 1) 27 [V.str a0] ([] : List Ob) = (envK [V.str a0] Tryd.f27.ntmps fun env => runM cfg (callN cfg k) (icallN cfg (callN cfg k) 20) (slotsOf Tryd.f27.results.toList) (List.length (([] : List Ob) : List Ob)) (Go.Ev.runN cfg (callN cfg k) (icallN cfg (callN cfg k) 20) (slotsOf Tryd.f27.results.toList) (List.length (([] : List Ob) : List Ob)) (finV cfg Tryd.f27 (finish cfg Tryd.f27 27 (List.map OSh.of (([] : List Ob) : List Ob)))) k) (finV cfg Tryd.f27 (finish cfg Tryd.f27 27 (List.map OSh.of (([] : List Ob) : List Ob)))) depth [.code (codeOf Tryd.f27)] ⟨env, ([] : List Ob)⟩) by kernel_rfl).trans ((E27 _ _ _ a0).trans ?_)
  rw [show (fun s0 i1 => Go.Ev.runN cfg (callN cfg k) (icallN cfg (callN cfg k) 20) (slotsOf Tryd.f27.results.toList) (List.length (([] : List Ob) : List Ob)) (finV cfg Tryd.f27 (finish cfg Tryd.f27 27 (List.map OSh.of (([] : List Ob) : List Ob)))) k (tdOf Tryd.f27 0) (K27_0 s0 i1)) = (L27 (callN cfg k) k) from (funext fun s0 => funext fun i1 => ih s0 i1)]
theorem M27 (a0 : List UInt8) {r : V × List Ob} (h : Evt (fun k n => T27 (callN cfg k) (L27 (callN cfg k) n) a0) r) : Ret 27 [V.str a0] ([] : List Ob) r := ret_mk (g := fun k n => T27 (callN cfg k) (L27 (callN cfg k) n) a0) (fun k => C27 k a0) h
theorem N27_0 (s0 : List UInt8) (i1 : Int) {r : V × List Ob} (h : Evt (fun k n => T27_0 (callN cfg k) (L27 (callN cfg k) n) s0 i1) r) : Evt (fun k n => (L27 (callN cfg k) n) s0 i1) r := evt_step (g' := fun k n => T27_0 (callN cfg k) (L27 (callN cfg k) n) s0 i1) (fun _k _n => rfl) h

def T28_0 (call : FuncId → Fun) (ag0 : List V → List UInt8 → List UInt8 → Int → Option (V × List Ob)) (l0 : List V) (s1 : List UInt8) (s2 : List UInt8) (i3 : Int) : Option (V × List Ob) :=
  if (decide (i3 ≤ ((List.length l0 : Nat) : Int))) = true then
    chk (catOk s1 [42]) (Option.bind (call 48 [(V.int IntKind.i64 i3)] []) fun p0 =>
    chk (catOk (s1 ++ [42]) (V.getS p0.1)) (Option.bind (call 45 [(V.lst 62 false l0), (V.str ((s1 ++ [42]) ++ (V.getS p0.1)))] []) fun p1 =>
    chk (catOk ((s1 ++ [42]) ++ (V.getS p0.1)) [42]) (Option.bind (call 45 [(V.lst 62 false l0), (V.str (((s1 ++ [42]) ++ (V.getS p0.1)) ++ [42]))] []) fun p2 =>
    Option.bind (if (decide ((V.getI p1.1) < (0 : Int))) = true then
        some (decide ((V.getI p2.1) < (0 : Int)))
      else
        some false) fun b3 =>
    if b3 = true then
      some ((V.tup [(V.str s2), (V.bool (decide (i3 > (0 : Int))))]), [])
    else
      if (decide ((V.getI p1.1) ≥ (0 : Int))) = true then
        chk (decide (0 ≤ (V.getI p1.1))) (chk (decide ((V.getI p1.1) < ((List.length l0 : Nat) : Int))) (chk (catOk s2 (V.getS (List.headD (List.tail (V.cells (List.getD l0 (Int.toNat (V.getI p1.1)) V.bot))) V.bot))) ((ag0 (l0) (s1) ((s2 ++ (V.getS (List.headD (List.tail (V.cells (List.getD l0 (Int.toNat (V.getI p1.1)) V.bot))) V.bot)))) ((IntKind.wrap IntKind.i64 (i3 + (1 : Int))))))))
      else
        if (i3 == (0 : Int)) = true then
          chk (decide (0 ≤ (V.getI p2.1))) (chk (decide ((V.getI p2.1) < ((List.length l0 : Nat) : Int))) (Option.bind (call 47 [(V.str (V.getS (List.headD (List.tail (V.cells (List.getD l0 (Int.toNat (V.getI p2.1)) V.bot))) V.bot)))] []) fun p4 =>
          Option.bind (call 46 [(V.str (V.getS p4.1))] []) fun p5 =>
          chk (catOk s2 (V.getS p5.1)) ((ag0 (l0) (s1) ((s2 ++ (V.getS p5.1))) ((IntKind.wrap IntKind.i64 (i3 + (1 : Int))))))))
        else
          chk (decide (0 ≤ (V.getI p2.1))) (chk (decide ((V.getI p2.1) < ((List.length l0 : Nat) : Int))) (Option.bind (call 46 [(V.str (V.getS (List.headD (List.tail (V.cells (List.getD l0 (Int.toNat (V.getI p2.1)) V.bot))) V.bot)))] []) fun p4 =>
          chk (catOk s2 (V.getS p4.1)) ((ag0 (l0) (s1) ((s2 ++ (V.getS p4.1))) ((IntKind.wrap IntKind.i64 (i3 + (1 : Int)))))))))))
  else
    some ((V.tup [(V.str s2), (V.bool true)]), [])
def T28 (call : FuncId → Fun) (ag0 : List V → List UInt8 → List UInt8 → Int → Option (V × List Ob)) (a0 : List V) (a1 : List UInt8) : Option (V × List Ob) :=
  Option.bind (call 45 [(V.lst 62 false a0), (V.str a1)] []) fun p0 =>
  if (decide ((V.getI p0.1) ≥ (0 : Int))) = true then
    chk (decide (0 ≤ (V.getI p0.1))) (chk (decide ((V.getI p0.1) < ((List.length a0 : Nat) : Int))) (some ((V.tup [(V.str (V.getS (List.headD (List.tail (V.cells (List.getD a0 (Int.toNat (V.getI p0.1)) V.bot))) V.bot))), (V.bool true)]), [])))
  else
    chk (catOk a1 [42]) (Option.bind (call 45 [(V.lst 62 false a0), (V.str (a1 ++ [42]))] []) fun p1 =>
    if (decide ((V.getI p1.1) ≥ (0 : Int))) = true then
      chk (decide (0 ≤ (V.getI p1.1))) (chk (decide ((V.getI p1.1) < ((List.length a0 : Nat) : Int))) (Option.bind (call 47 [(V.str (V.getS (List.headD (List.tail (V.cells (List.getD a0 (Int.toNat (V.getI p1.1)) V.bot))) V.bot)))] []) fun p2 =>
      Option.bind (call 46 [(V.str (V.getS p2.1))] []) fun p3 =>
      some ((V.tup [(V.str (V.getS p3.1)), (V.bool true)]), [])))
    else
      (ag0 (a0) (a1) ([]) ((0 : Int))))
def K28_0 (l0 : List V) (s1 : List UInt8) (s2 : List UInt8) (i3 : Int) : St := ⟨[(V.lst 62 false l0), (V.str s1), V.bot, V.bot, V.bot, V.bot, V.bot, (V.str s2), (V.int IntKind.i64 i3), V.bot, V.bot, V.bot, V.bot, V.bot, V.bot, V.bot, V.bot, V.bot, V.bot, V.bot, V.bot, V.bot, V.bot, V.bot, V.bot, V.bot, V.bot, V.bot, V.bot, V.bot, V.bot, V.bot, V.bot, V.bot, V.bot, V.bot, V.bot, V.bot, V.bot, V.bot, V.bot, V.bot, V.bot, V.bot, V.bot, V.bot, V.bot, V.bot, V.bot, V.bot, V.bot, V.bot, V.bot, V.bot, V.bot, V.bot, V.bot, V.bot, V.bot, V.bot, V.bot, V.bot, V.bot, V.bot, V.bot, V.bot, V.bot, V.bot, V.bot, V.bot, V.bot, V.bot, V.bot, V.bot, V.bot, V.bot, V.bot, V.bot, V.bot, V.bot, V.bot, V.bot, V.bot, V.bot, V.bot, V.bot, V.bot, V.bot, V.bot, V.bot, V.bot], []⟩
theorem S28_0 (call : FuncId → Fun) (icall : ICall (V × List Ob)) (again : List It → St → Option (V × List Ob)) (_a0 : List V) (_a1 : List UInt8) (l0 : List V) (s1 : List UInt8) (s2 : List UInt8) (i3 : Int) :
    runM cfg call icall (slotsOf Tryd.f28.results.toList) (List.length (([] : List Ob) : List Ob)) again (finV cfg Tryd.f28 (finish cfg Tryd.f28 28 (List.map OSh.of (([] : List Ob) : List Ob)))) depth (tdOf Tryd.f28 0) (K28_0 l0 s1 s2 i3) = T28_0 call (fun l0 s1 s2 i3 => again (tdOf Tryd.f28 0) (K28_0 l0 s1 s2 i3)) l0 s1 s2 i3 := by kernel_rfl
theorem E28 (call : FuncId → Fun) (icall : ICall (V × List Ob)) (again : List It → St → Option (V × List Ob)) (a0 : List V) (a1 : List UInt8) :
    (envK [V.lst 62 false a0, V.str a1] Tryd.f28.ntmps fun env => runM cfg call icall (slotsOf Tryd.f28.results.toList) (List.length (([] : List Ob) : List Ob)) again (finV cfg Tryd.f28 (finish cfg Tryd.f28 28 (List.map OSh.of (([] : List Ob) : List Ob)))) depth [.code (codeOf Tryd.f28)] ⟨env, ([] : List Ob)⟩) = T28 call (fun l0 s1 s2 i3 => again (tdOf Tryd.f28 0) (K28_0 l0 s1 s2 i3)) a0 a1 := by kernel_rfl
def L28 (call : FuncId → Fun) : Nat → (List V → List UInt8 → List UInt8 → Int → Option (V × List Ob))
  | 0 => fun _ _ _ _ => none
  | n + 1 => T28_0 call (L28 call n)
theorem R28 (call : FuncId → Fun) (icall : ICall (V × List Ob)) (a0 : List V) (a1 : List UInt8) : ∀ n, (∀ (l0 : List V) (s1 : List UInt8) (s2 : List UInt8) (i3 : Int), Go.Ev.runN cfg call icall (slotsOf Tryd.f28.results.toList) (List.length (([] : List Ob) : List Ob)) (finV cfg Tryd.f28 (finish cfg Tryd.f28 28 (List.map OSh.of (([] : List Ob) : List Ob)))) n (tdOf Tryd.f28 0) (K28_0 l0 s1 s2 i3) = (L28 call n) l0 s1 s2 i3)
  | 0 => fun l0 s1 s2 i3 => rfl
  | n + 1 => by
    have ih := R28 call icall a0 a1 n
    exact fun l0 s1 s2 i3 => (S28_0 call icall (Go.Ev.runN cfg call icall (slotsOf Tryd.f28.results.toList) (List.length (([] : List Ob) : List Ob)) (finV cfg Tryd.f28 (finish cfg Tryd.f28 28 (List.map OSh.of (([] : List Ob) : List Ob)))) n) a0 a1 l0 s1 s2 i3).trans (by
      rw [show (fun l0 s1 s2 i3 => Go.Ev.runN cfg call icall (slotsOf Tryd.f28.results.toList) (List.length (([] : List Ob) : List Ob)) (finV cfg Tryd.f28 (finish cfg Tryd.f28 28 (List.map OSh.of (([] : List Ob) : List Ob)))) n (tdOf Tryd.f28 0) (K28_0 l0 s1 s2 i3)) = (L28 call n) from (funext fun l0 => funext fun s1 => funext fun s2 => funext fun i3 => ih l0 s1 s2 i3)]; rfl)
theorem C28 (k : Nat) (a0 : List V) (a1 : List UInt8) : callN cfg (k + 1) 28 [V.lst 62 false a0, V.str a1] ([] : List Ob) = T28 (callN cfg k) (L28 (callN cfg k) k) a0 a1 := by
  have ih := R28 (callN cfg k) (icallN cfg (callN cfg k) 20) a0 a1 k
  refine (show callN cfg (k + 1) 28 [V.lst 62 false a0, V.str a1] ([] : List Ob) = (envK [V.lst 62 false a0, V.str a1] Tryd.f28.ntmps fun env => runM cfg (callN cfg k) (icallN cfg (callN cfg k) 20) (slotsOf Tryd.f28.results.toList) (List.length (([] : List Ob) : List Ob)) (Go.Ev.runN cfg (callN cfg k) (icallN cfg (callN cfg k) 20) (slotsOf Tryd.f28.results.toList) (List.length (([] : List Ob) : List Ob)) (finV cfg Tryd.f28 (finish cfg Tryd.f28 28 (List.map OSh.of (([] : List Ob) : List Ob)))) k) (finV cfg Tryd.f28 (finish cfg Tryd.f28 28 (List.map OSh.of (([] : List Ob) : List Ob)))) depth [.code (codeOf Tryd.f28)] ⟨env, ([] : List Ob)⟩) by kernel_rfl).trans ((E28 _ _ _ a0 a1).trans ?_)
  rw [show (fun l0 s1 s2 i3 => Go.Ev.runN cfg (callN cfg k) (icallN cfg (callN cfg k) 20) (slotsOf Tryd.f28.results.toList) (List.length (([] : List Ob) : List Ob)) (finV cfg Tryd.f28 (finish cfg Tryd.f28 28 (List.map OSh.of (([] : List Ob) : List Ob)))) k (tdOf Tryd.f28 0) (K28_0 l0 s1 s2 i3)) = (L28 (callN cfg k) k) from (funext fun l0 => funext fun s1 => funext fun s2 => funext fun i3 => ih l0 s1 s2 i3)]
theorem M28 (a0 : List V) (a1 : List UInt8) {r : V × List Ob} (h : Evt (fun k n => T28 (callN cfg k) (L28 (callN cfg k) n) a0 a1) r) : Ret 28 [V.lst 62 false a0, V.str a1] ([] : List Ob) r := ret_mk (g := fun k n => T28 (callN cfg k) (L28 (callN cfg k) n) a0 a1) (fun k => C28 k a0 a1) h
theorem N28_0 (l0 : List V) (s1 : List UInt8) (s2 : List UInt8) (i3 : Int) {r : V × List Ob} (h : Evt (fun k n => T28_0 (callN cfg k) (L28 (callN cfg k) n) l0 s1 s2 i3) r) : Evt (fun k n => (L28 (callN cfg k) n) l0 s1 s2 i3) r := evt_step (g' := fun k n => T28_0 (callN cfg k) (L28 (callN cfg k) n) l0 s1 s2 i3) (fun _k _n => rfl) h

def T41 (call : FuncId → Fun)  (a0 : Int) : Option (V × List Ob) :=
  Option.bind (call 55 [(V.str [40, 41, 60, 62, 64, 44, 59, 58, 92, 34, 47, 91, 93, 63, 61]), (V.int IntKind.u8 a0)] []) fun p0 =>
  Option.bind (if (decide (a0 > (32 : Int))) = true then
      if (decide (a0 < (127 : Int))) = true then
        some (!(V.getB p0.1))
      else
        some false
    else
      some false) fun b1 =>
  some ((V.bool b1), [])
theorem E41 (call : FuncId → Fun) (icall : ICall (V × List Ob)) (again : List It → St → Option (V × List Ob)) (a0 : Int) :
    (envK [V.int IntKind.u8 a0] Tryd.f41.ntmps fun env => runM cfg call icall (slotsOf Tryd.f41.results.toList) (List.length (([] : List Ob) : List Ob)) again (finV cfg Tryd.f41 (finish cfg Tryd.f41 41 (List.map OSh.of (([] : List Ob) : List Ob)))) depth [.code (codeOf Tryd.f41)] ⟨env, ([] : List Ob)⟩) = T41 call  a0 := by kernel_rfl
theorem C41 (k : Nat) (a0 : Int) : callN cfg (k + 1) 41 [V.int IntKind.u8 a0] ([] : List Ob) = T41 (callN cfg k) a0 :=
  (show callN cfg (k + 1) 41 [V.int IntKind.u8 a0] ([] : List Ob) = (envK [V.int IntKind.u8 a0] Tryd.f41.ntmps fun env => runM cfg (callN cfg k) (icallN cfg (callN cfg k) 20) (slotsOf Tryd.f41.results.toList) (List.length (([] : List Ob) : List Ob)) (Go.Ev.runN cfg (callN cfg k) (icallN cfg (callN cfg k) 20) (slotsOf Tryd.f41.results.toList) (List.length (([] : List Ob) : List Ob)) (finV cfg Tryd.f41 (finish cfg Tryd.f41 41 (List.map OSh.of (([] : List Ob) : List Ob)))) k) (finV cfg Tryd.f41 (finish cfg Tryd.f41 41 (List.map OSh.of (([] : List Ob) : List Ob)))) depth [.code (codeOf Tryd.f41)] ⟨env, ([] : List Ob)⟩) by kernel_rfl).trans (E41 _ _ _ a0)
theorem M41 (a0 : Int) {r : V × List Ob} (h : Evt (fun k _n => T41 (callN cfg k)  a0) r) : Ret 41 [V.int IntKind.u8 a0] ([] : List Ob) r := ret_mk (g := fun k _n => T41 (callN cfg k)  a0) (fun k => C41 k a0) h

def T42_0 (_call : FuncId → Fun) (ag0 : List UInt8 → Int → Int → Option (V × List Ob)) (s0 : List UInt8) (i1 : Int) (i2 : Int) : Option (V × List Ob) :=
  if (decide (i2 < ((List.length s0 : Nat) : Int))) = true then
    chk (decide (0 ≤ i2)) (chk (decide (i2 < ((List.length s0 : Nat) : Int))) (if (((UInt8.toNat (List.getD s0 (Int.toNat i2) 0) : Nat) : Int) == (92 : Int)) = true then
      if (((UInt8.toNat (List.getD s0 (Int.toNat i2) 0) : Nat) : Int) == (40 : Int)) = true then
        if (((UInt8.toNat (List.getD s0 (Int.toNat i2) 0) : Nat) : Int) == (41 : Int)) = true then
          if ((IntKind.wrap IntKind.i64 ((IntKind.wrap IntKind.i64 (i1 + (1 : Int))) - (1 : Int))) == (0 : Int)) = true then
            chk (decide (0 ≤ (IntKind.wrap IntKind.i64 ((IntKind.wrap IntKind.i64 (i2 + (1 : Int))) + (1 : Int))))) (chk (decide ((IntKind.wrap IntKind.i64 ((IntKind.wrap IntKind.i64 (i2 + (1 : Int))) + (1 : Int))) ≤ ((List.length s0 : Nat) : Int))) (some ((V.str (List.drop (Int.toNat (IntKind.wrap IntKind.i64 ((IntKind.wrap IntKind.i64 (i2 + (1 : Int))) + (1 : Int)))) s0)), [])))
          else
            (ag0 (s0) ((IntKind.wrap IntKind.i64 ((IntKind.wrap IntKind.i64 (i1 + (1 : Int))) - (1 : Int)))) ((IntKind.wrap IntKind.i64 ((IntKind.wrap IntKind.i64 (i2 + (1 : Int))) + (1 : Int)))))
        else
          (ag0 (s0) ((IntKind.wrap IntKind.i64 (i1 + (1 : Int)))) ((IntKind.wrap IntKind.i64 ((IntKind.wrap IntKind.i64 (i2 + (1 : Int))) + (1 : Int)))))
      else
        if (((UInt8.toNat (List.getD s0 (Int.toNat i2) 0) : Nat) : Int) == (41 : Int)) = true then
          if ((IntKind.wrap IntKind.i64 (i1 - (1 : Int))) == (0 : Int)) = true then
            chk (decide (0 ≤ (IntKind.wrap IntKind.i64 ((IntKind.wrap IntKind.i64 (i2 + (1 : Int))) + (1 : Int))))) (chk (decide ((IntKind.wrap IntKind.i64 ((IntKind.wrap IntKind.i64 (i2 + (1 : Int))) + (1 : Int))) ≤ ((List.length s0 : Nat) : Int))) (some ((V.str (List.drop (Int.toNat (IntKind.wrap IntKind.i64 ((IntKind.wrap IntKind.i64 (i2 + (1 : Int))) + (1 : Int)))) s0)), [])))
          else
            (ag0 (s0) ((IntKind.wrap IntKind.i64 (i1 - (1 : Int)))) ((IntKind.wrap IntKind.i64 ((IntKind.wrap IntKind.i64 (i2 + (1 : Int))) + (1 : Int)))))
        else
          (ag0 (s0) (i1) ((IntKind.wrap IntKind.i64 ((IntKind.wrap IntKind.i64 (i2 + (1 : Int))) + (1 : Int)))))
    else
      if (((UInt8.toNat (List.getD s0 (Int.toNat i2) 0) : Nat) : Int) == (40 : Int)) = true then
        if (((UInt8.toNat (List.getD s0 (Int.toNat i2) 0) : Nat) : Int) == (41 : Int)) = true then
          if ((IntKind.wrap IntKind.i64 ((IntKind.wrap IntKind.i64 (i1 + (1 : Int))) - (1 : Int))) == (0 : Int)) = true then
            chk (decide (0 ≤ (IntKind.wrap IntKind.i64 (i2 + (1 : Int))))) (chk (decide ((IntKind.wrap IntKind.i64 (i2 + (1 : Int))) ≤ ((List.length s0 : Nat) : Int))) (some ((V.str (List.drop (Int.toNat (IntKind.wrap IntKind.i64 (i2 + (1 : Int)))) s0)), [])))
          else
            (ag0 (s0) ((IntKind.wrap IntKind.i64 ((IntKind.wrap IntKind.i64 (i1 + (1 : Int))) - (1 : Int)))) ((IntKind.wrap IntKind.i64 (i2 + (1 : Int)))))
        else
          (ag0 (s0) ((IntKind.wrap IntKind.i64 (i1 + (1 : Int)))) ((IntKind.wrap IntKind.i64 (i2 + (1 : Int)))))
      else
        if (((UInt8.toNat (List.getD s0 (Int.toNat i2) 0) : Nat) : Int) == (41 : Int)) = true then
          if ((IntKind.wrap IntKind.i64 (i1 - (1 : Int))) == (0 : Int)) = true then
            chk (decide (0 ≤ (IntKind.wrap IntKind.i64 (i2 + (1 : Int))))) (chk (decide ((IntKind.wrap IntKind.i64 (i2 + (1 : Int))) ≤ ((List.length s0 : Nat) : Int))) (some ((V.str (List.drop (Int.toNat (IntKind.wrap IntKind.i64 (i2 + (1 : Int)))) s0)), [])))
          else
            (ag0 (s0) ((IntKind.wrap IntKind.i64 (i1 - (1 : Int)))) ((IntKind.wrap IntKind.i64 (i2 + (1 : Int)))))
        else
          (ag0 (s0) (i1) ((IntKind.wrap IntKind.i64 (i2 + (1 : Int)))))))
  else
    some ((V.str []), [])
def T42 (_call : FuncId → Fun) (ag0 : List UInt8 → Int → Int → Option (V × List Ob)) (a0 : List UInt8) : Option (V × List Ob) :=
  (ag0 (a0) ((0 : Int)) ((0 : Int)))
def K42_0 (s0 : List UInt8) (i1 : Int) (i2 : Int) : St := ⟨[(V.str s0), V.bot, V.bot, (V.int IntKind.i64 i1), (V.int IntKind.i64 i2), V.bot, V.bot, V.bot, V.bot, V.bot, V.bot, V.bot, V.bot, V.bot, V.bot, V.bot, V.bot, V.bot, V.bot, V.bot, V.bot, V.bot, V.bot, V.bot, V.bot, V.bot, V.bot, V.bot, V.bot, V.bot, V.bot, V.bot], []⟩
theorem S42_0 (call : FuncId → Fun) (icall : ICall (V × List Ob)) (again : List It → St → Option (V × List Ob)) (_a0 : List UInt8) (s0 : List UInt8) (i1 : Int) (i2 : Int) :
    runM cfg call icall (slotsOf Tryd.f42.results.toList) (List.length (([] : List Ob) : List Ob)) again (finV cfg Tryd.f42 (finish cfg Tryd.f42 42 (List.map OSh.of (([] : List Ob) : List Ob)))) depth (tdOf Tryd.f42 0) (K42_0 s0 i1 i2) = T42_0 call (fun s0 i1 i2 => again (tdOf Tryd.f42 0) (K42_0 s0 i1 i2)) s0 i1 i2 := by kernel_rfl
theorem E42 (call : FuncId → Fun) (icall : ICall (V × List Ob)) (again : List It → St → Option (V × List Ob)) (a0 : List UInt8) :
    (envK [V.str a0] Tryd.f42.ntmps fun env => runM cfg call icall (slotsOf Tryd.f42.results.toList) (List.length (([] : List Ob) : List Ob)) again (finV cfg Tryd.f42 (finish cfg Tryd.f42 42 (List.map OSh.of (([] : List Ob) : List Ob)))) depth [.code (codeOf Tryd.f42)] ⟨env, ([] : List Ob)⟩) = T42 call (fun s0 i1 i2 => again (tdOf Tryd.f42 0) (K42_0 s0 i1 i2)) a0 := by kernel_rfl
def L42 (call : FuncId → Fun) : Nat → (List UInt8 → Int → Int → Option (V × List Ob))
  | 0 => fun _ _ _ => none
  | n + 1 => T42_0 call (L42 call n)
theorem R42 (call : FuncId → Fun) (icall : ICall (V × List Ob)) (a0 : List UInt8) : ∀ n, (∀ (s0 : List UInt8) (i1 : Int) (i2 : Int), Go.Ev.runN cfg call icall (slotsOf Tryd.f42.results.toList) (List.length (([] : List Ob) : List Ob)) (finV cfg Tryd.f42 (finish cfg Tryd.f42 42 (List.map OSh.of (([] : List Ob) : List Ob)))) n (tdOf Tryd.f42 0) (K42_0 s0 i1 i2) = (L42 call n) s0 i1 i2)
  | 0 => fun s0 i1 i2 => rfl
  | n + 1 => by
    have ih := R42 call icall a0 n
    exact fun s0 i1 i2 => (S42_0 call icall (Go.Ev.runN cfg call icall (slotsOf Tryd.f42.results.toList) (List.length (([] : List Ob) : List Ob)) (finV cfg Tryd.f42 (finish cfg Tryd.f42 42 (List.map OSh.of (([] : List Ob) : List Ob)))) n) a0 s0 i1 i2).trans (by
      rw [show (fun s0 i1 i2 => Go.Ev.runN cfg call icall (slotsOf Tryd.f42.results.toList) (List.length (([] : List Ob) : List Ob)) (finV cfg Tryd.f42 (finish cfg Tryd.f42 42 (List.map OSh.of (([] : List Ob) : List Ob)))) n (tdOf Tryd.f42 0) (K42_0 s0 i1 i2)) = (L42 call n) from (funext fun s0 => funext fun i1 => funext fun i2 => ih s0 i1 i2)]; rfl)
theorem C42 (k : Nat) (a0 : List UInt8) : callN cfg (k + 1) 42 [V.str a0] ([] : List Ob) = T42 (callN cfg k) (L42 (callN cfg k) k) a0 := by
  have ih := R42 (callN cfg k) (icallN cfg (callN cfg k) 20) a0 k
  refine (show callN cfg (k + 1) 42 [V.str a0] ([] : List Ob) = (envK [V.str a0] Tryd.f42.ntmps fun env => runM cfg (callN cfg k) (icallN cfg (callN cfg k) 20) (slotsOf Tryd.f42.results.toList) (List.length (([] : List Ob) : List Ob)) (Go.Ev.runN cfg (callN cfg k) (icallN cfg (callN cfg k) 20) (slotsOf Tryd.f42.results.toList) (List.length (([] : List Ob) : List Ob)) (finV cfg Tryd.f42 (finish cfg Tryd.f42 42 (List.map OSh.of (([] : List Ob) : List Ob)))) k) (finV cfg Tryd.f42 (finish cfg Tryd.f42 42 (List.map OSh.of (([] : List Ob) : List Ob)))) depth [.code (codeOf Tryd.f42)] ⟨env, ([] : List Ob)⟩) by kernel_rfl).trans ((E42 _ _ _ a0).trans ?_)
  rw [show (fun s0 i1 i2 => Go.Ev.runN cfg (callN cfg k) (icallN cfg (callN cfg k) 20) (slotsOf Tryd.f42.results.toList) (List.length (([] : List Ob) : List Ob)) (finV cfg Tryd.f42 (finish cfg Tryd.f42 42 (List.map OSh.of (([] : List Ob) : List Ob)))) k (tdOf Tryd.f42 0) (K42_0 s0 i1 i2)) = (L42 (callN cfg k) k) from (funext fun s0 => funext fun i1 => funext fun i2 => ih s0 i1 i2)]
theorem M42 (a0 : List UInt8) {r : V × List Ob} (h : Evt (fun k n => T42 (callN cfg k) (L42 (callN cfg k) n) a0) r) : Ret 42 [V.str a0] ([] : List Ob) r := ret_mk (g := fun k n => T42 (callN cfg k) (L42 (callN cfg k) n) a0) (fun k => C42 k a0) h
theorem N42_0 (s0 : List UInt8) (i1 : Int) (i2 : Int) {r : V × List Ob} (h : Evt (fun k n => T42_0 (callN cfg k) (L42 (callN cfg k) n) s0 i1 i2) r) : Evt (fun k n => (L42 (callN cfg k) n) s0 i1 i2) r := evt_step (g' := fun k n => T42_0 (callN cfg k) (L42 (callN cfg k) n) s0 i1 i2) (fun _k _n => rfl) h

def T43_0 (_call : FuncId → Fun) (ag0 : Int → List UInt8 → List UInt8 → Int → Option (V × List Ob)) (i0 : Int) (s1 : List UInt8) (s2 : List UInt8) (i3 : Int) : Option (V × List Ob) :=
  if (decide (i3 < ((List.length s1 : Nat) : Int))) = true then
    chk (decide (0 ≤ i3)) (chk (decide (i3 < ((List.length s1 : Nat) : Int))) (if (((UInt8.toNat (List.getD s1 (Int.toNat i3) 0) : Nat) : Int) == i0) = true then
      chk (decide (0 ≤ i3)) (chk (decide (i3 < ((List.length s2 : Nat) : Int))) (some ((V.int IntKind.u8 ((UInt8.toNat (List.getD s2 (Int.toNat i3) 0) : Nat) : Int)), [])))
    else
      (ag0 (i0) (s1) (s2) ((IntKind.wrap IntKind.i64 (i3 + (1 : Int)))))))
  else
    some ((V.int IntKind.u8 i0), [])
def T43 (_call : FuncId → Fun) (ag0 : Int → List UInt8 → List UInt8 → Int → Option (V × List Ob)) (a0 : Int) : Option (V × List Ob) :=
  (ag0 (a0) ([65, 66, 67, 68, 69, 70, 71, 72, 73, 74, 75, 76, 77, 78, 79, 80, 81, 82, 83, 84, 85, 86, 87, 88, 89, 90]) ([97, 98, 99, 100, 101, 102, 103, 104, 105, 106, 107, 108, 109, 110, 111, 112, 113, 114, 115, 116, 117, 118, 119, 120, 121, 122]) ((0 : Int)))
def K43_0 (i0 : Int) (s1 : List UInt8) (s2 : List UInt8) (i3 : Int) : St := ⟨[(V.int IntKind.u8 i0), V.bot, V.bot, (V.str s1), (V.str s2), (V.int IntKind.i64 i3), V.bot, V.bot, V.bot, V.bot, V.bot, V.bot, V.bot, V.bot, V.bot, V.bot, V.bot, V.bot, V.bot, V.bot, V.bot], []⟩
theorem S43_0 (call : FuncId → Fun) (icall : ICall (V × List Ob)) (again : List It → St → Option (V × List Ob)) (_a0 : Int) (i0 : Int) (s1 : List UInt8) (s2 : List UInt8) (i3 : Int) :
    runM cfg call icall (slotsOf Tryd.f43.results.toList) (List.length (([] : List Ob) : List Ob)) again (finV cfg Tryd.f43 (finish cfg Tryd.f43 43 (List.map OSh.of (([] : List Ob) : List Ob)))) depth (tdOf Tryd.f43 0) (K43_0 i0 s1 s2 i3) = T43_0 call (fun i0 s1 s2 i3 => again (tdOf Tryd.f43 0) (K43_0 i0 s1 s2 i3)) i0 s1 s2 i3 := by kernel_rfl
theorem E43 (call : FuncId → Fun) (icall : ICall (V × List Ob)) (again : List It → St → Option (V × List Ob)) (a0 : Int) :
    (envK [V.int IntKind.u8 a0] Tryd.f43.ntmps fun env => runM cfg call icall (slotsOf Tryd.f43.results.toList) (List.length (([] : List Ob) : List Ob)) again (finV cfg Tryd.f43 (finish cfg Tryd.f43 43 (List.map OSh.of (([] : List Ob) : List Ob)))) depth [.code (codeOf Tryd.f43)] ⟨env, ([] : List Ob)⟩) = T43 call (fun i0 s1 s2 i3 => again (tdOf Tryd.f43 0) (K43_0 i0 s1 s2 i3)) a0 := by kernel_rfl
def L43 (call : FuncId → Fun) : Nat → (Int → List UInt8 → List UInt8 → Int → Option (V × List Ob))
  | 0 => fun _ _ _ _ => none
  | n + 1 => T43_0 call (L43 call n)
theorem R43 (call : FuncId → Fun) (icall : ICall (V × List Ob)) (a0 : Int) : ∀ n, (∀ (i0 : Int) (s1 : List UInt8) (s2 : List UInt8) (i3 : Int), Go.Ev.runN cfg call icall (slotsOf Tryd.f43.results.toList) (List.length (([] : List Ob) : List Ob)) (finV cfg Tryd.f43 (finish cfg Tryd.f43 43 (List.map OSh.of (([] : List Ob) : List Ob)))) n (tdOf Tryd.f43 0) (K43_0 i0 s1 s2 i3) = (L43 call n) i0 s1 s2 i3)
  | 0 => fun i0 s1 s2 i3 => rfl
  | n + 1 => by
    have ih := R43 call icall a0 n
    exact fun i0 s1 s2 i3 => (S43_0 call icall (Go.Ev.runN cfg call icall (slotsOf Tryd.f43.results.toList) (List.length (([] : List Ob) : List Ob)) (finV cfg Tryd.f43 (finish cfg Tryd.f43 43 (List.map OSh.of (([] : List Ob) : List Ob)))) n) a0 i0 s1 s2 i3).trans (by
      rw [show (fun i0 s1 s2 i3 => Go.Ev.runN cfg call icall (slotsOf Tryd.f43.results.toList) (List.length (([] : List Ob) : List Ob)) (finV cfg Tryd.f43 (finish cfg Tryd.f43 43 (List.map OSh.of (([] : List Ob) : List Ob)))) n (tdOf Tryd.f43 0) (K43_0 i0 s1 s2 i3)) = (L43 call n) from (funext fun i0 => funext fun s1 => funext fun s2 => funext fun i3 => ih i0 s1 s2 i3)]; rfl)
theorem C43 (k : Nat) (a0 : Int) : callN cfg (k + 1) 43 [V.int IntKind.u8 a0] ([] : List Ob) = T43 (callN cfg k) (L43 (callN cfg k) k) a0 := by
  have ih := R43 (callN cfg k) (icallN cfg (callN cfg k) 20) a0 k
  refine (show callN cfg (k + 1) 43 [V.int IntKind.u8 a0] ([] : List Ob) = (envK [V.int IntKind.u8 a0] Tryd.f43.ntmps fun env => runM cfg (callN cfg k) (icallN cfg (callN cfg k) 20) (slotsOf Tryd.f43.results.toList) (List.length (([] : List Ob) : List Ob)) (Go.Ev.runN cfg (callN cfg k) (icallN cfg (callN cfg k) 20) (slotsOf Tryd.f43.results.toList) (List.length (([] : List Ob) : List Ob)) (finV cfg Tryd.f43 (finish cfg Tryd.f43 43 (List.map OSh.of (([] : List Ob) : List Ob)))) k) (finV cfg Tryd.f43 (finish cfg Tryd.f43 43 (List.map OSh.of (([] : List Ob) : List Ob)))) depth [.code (codeOf Tryd.f43)] ⟨env, ([] : List Ob)⟩) by kernel_rfl).trans ((E43 _ _ _ a0).trans ?_)
  rw [show (fun i0 s1 s2 i3 => Go.Ev.runN cfg (callN cfg k) (icallN cfg (callN cfg k) 20) (slotsOf Tryd.f43.results.toList) (List.length (([] : List Ob) : List Ob)) (finV cfg Tryd.f43 (finish cfg Tryd.f43 43 (List.map OSh.of (([] : List Ob) : List Ob)))) k (tdOf Tryd.f43 0) (K43_0 i0 s1 s2 i3)) = (L43 (callN cfg k) k) from (funext fun i0 => funext fun s1 => funext fun s2 => funext fun i3 => ih i0 s1 s2 i3)]
theorem M43 (a0 : Int) {r : V × List Ob} (h : Evt (fun k n => T43 (callN cfg k) (L43 (callN cfg k) n) a0) r) : Ret 43 [V.int IntKind.u8 a0] ([] : List Ob) r := ret_mk (g := fun k n => T43 (callN cfg k) (L43 (callN cfg k) n) a0) (fun k => C43 k a0) h
theorem N43_0 (i0 : Int) (s1 : List UInt8) (s2 : List UInt8) (i3 : Int) {r : V × List Ob} (h : Evt (fun k n => T43_0 (callN cfg k) (L43 (callN cfg k) n) i0 s1 s2 i3) r) : Evt (fun k n => (L43 (callN cfg k) n) i0 s1 s2 i3) r := evt_step (g' := fun k n => T43_0 (callN cfg k) (L43 (callN cfg k) n) i0 s1 s2 i3) (fun _k _n => rfl) h

def T44_0 (_call : FuncId → Fun) (ag0 : List UInt8 → List UInt8 → Int → Option (V × List Ob)) (s0 : List UInt8) (s1 : List UInt8) (i2 : Int) : Option (V × List Ob) :=
  if (decide (i2 < ((List.length s0 : Nat) : Int))) = true then
    chk (decide (0 ≤ i2)) (chk (decide (i2 < ((List.length s0 : Nat) : Int))) (if (((UInt8.toNat (List.getD s0 (Int.toNat i2) 0) : Nat) : Int) == (34 : Int)) = true then
      chk (decide (0 ≤ (IntKind.wrap IntKind.i64 (i2 + (1 : Int))))) (chk (decide ((IntKind.wrap IntKind.i64 (i2 + (1 : Int))) ≤ ((List.length s0 : Nat) : Int))) (some ((V.tup [(V.str s1), (V.str (List.drop (Int.toNat (IntKind.wrap IntKind.i64 (i2 + (1 : Int)))) s0)), (V.bool true)]), [])))
    else
      chk (decide (0 ≤ i2)) (chk (decide (i2 < ((List.length s0 : Nat) : Int))) (if (((UInt8.toNat (List.getD s0 (Int.toNat i2) 0) : Nat) : Int) == (92 : Int)) = true then
        if (decide ((IntKind.wrap IntKind.i64 (i2 + (1 : Int))) < ((List.length s0 : Nat) : Int))) = true then
          chk (decide (0 ≤ (IntKind.wrap IntKind.i64 ((IntKind.wrap IntKind.i64 (i2 + (1 : Int))) + (1 : Int))))) (chk (decide ((IntKind.wrap IntKind.i64 ((IntKind.wrap IntKind.i64 (i2 + (1 : Int))) + (1 : Int))) ≤ ((List.length s0 : Nat) : Int))) (chk (decide (0 ≤ (IntKind.wrap IntKind.i64 (i2 + (1 : Int))))) (chk (decide ((IntKind.wrap IntKind.i64 (i2 + (1 : Int))) ≤ (IntKind.wrap IntKind.i64 ((IntKind.wrap IntKind.i64 (i2 + (1 : Int))) + (1 : Int))))) (chk (catOk s1 (List.drop (Int.toNat (IntKind.wrap IntKind.i64 (i2 + (1 : Int)))) (List.take (Int.toNat (IntKind.wrap IntKind.i64 ((IntKind.wrap IntKind.i64 (i2 + (1 : Int))) + (1 : Int)))) s0))) ((ag0 (s0) ((s1 ++ (List.drop (Int.toNat (IntKind.wrap IntKind.i64 (i2 + (1 : Int)))) (List.take (Int.toNat (IntKind.wrap IntKind.i64 ((IntKind.wrap IntKind.i64 (i2 + (1 : Int))) + (1 : Int)))) s0)))) ((IntKind.wrap IntKind.i64 ((IntKind.wrap IntKind.i64 (i2 + (1 : Int))) + (1 : Int))))))))))
        else
          (ag0 (s0) (s1) ((IntKind.wrap IntKind.i64 ((IntKind.wrap IntKind.i64 (i2 + (1 : Int))) + (1 : Int)))))
      else
        if (decide (i2 < ((List.length s0 : Nat) : Int))) = true then
          chk (decide (0 ≤ (IntKind.wrap IntKind.i64 (i2 + (1 : Int))))) (chk (decide ((IntKind.wrap IntKind.i64 (i2 + (1 : Int))) ≤ ((List.length s0 : Nat) : Int))) (chk (decide (0 ≤ i2)) (chk (decide (i2 ≤ (IntKind.wrap IntKind.i64 (i2 + (1 : Int))))) (chk (catOk s1 (List.drop (Int.toNat i2) (List.take (Int.toNat (IntKind.wrap IntKind.i64 (i2 + (1 : Int)))) s0))) ((ag0 (s0) ((s1 ++ (List.drop (Int.toNat i2) (List.take (Int.toNat (IntKind.wrap IntKind.i64 (i2 + (1 : Int)))) s0)))) ((IntKind.wrap IntKind.i64 (i2 + (1 : Int))))))))))
        else
          (ag0 (s0) (s1) ((IntKind.wrap IntKind.i64 (i2 + (1 : Int)))))))))
  else
    some ((V.tup [(V.str []), (V.str []), (V.bool false)]), [])
def T44 (_call : FuncId → Fun) (ag0 : List UInt8 → List UInt8 → Int → Option (V × List Ob)) (a0 : List UInt8) : Option (V × List Ob) :=
  (ag0 (a0) ([]) ((1 : Int)))
def K44_0 (s0 : List UInt8) (s1 : List UInt8) (i2 : Int) : St := ⟨[(V.str s0), V.bot, V.bot, V.bot, V.bot, (V.str s1), (V.int IntKind.i64 i2), V.bot, V.bot, V.bot, V.bot, V.bot, V.bot, V.bot, V.bot, V.bot, V.bot, V.bot, V.bot, V.bot, V.bot, V.bot, V.bot, V.bot, V.bot, V.bot, V.bot, V.bot, V.bot, V.bot, V.bot, V.bot, V.bot, V.bot, V.bot, V.bot, V.bot, V.bot, V.bot], []⟩
theorem S44_0 (call : FuncId → Fun) (icall : ICall (V × List Ob)) (again : List It → St → Option (V × List Ob)) (_a0 : List UInt8) (s0 : List UInt8) (s1 : List UInt8) (i2 : Int) :
    runM cfg call icall (slotsOf Tryd.f44.results.toList) (List.length (([] : List Ob) : List Ob)) again (finV cfg Tryd.f44 (finish cfg Tryd.f44 44 (List.map OSh.of (([] : List Ob) : List Ob)))) depth (tdOf Tryd.f44 0) (K44_0 s0 s1 i2) = T44_0 call (fun s0 s1 i2 => again (tdOf Tryd.f44 0) (K44_0 s0 s1 i2)) s0 s1 i2 := by kernel_rfl
theorem E44 (call : FuncId → Fun) (icall : ICall (V × List Ob)) (again : List It → St → Option (V × List Ob)) (a0 : List UInt8) :
    (envK [V.str a0] Tryd.f44.ntmps fun env => runM cfg call icall (slotsOf Tryd.f44.results.toList) (List.length (([] : List Ob) : List Ob)) again (finV cfg Tryd.f44 (finish cfg Tryd.f44 44 (List.map OSh.of (([] : List Ob) : List Ob)))) depth [.code (codeOf Tryd.f44)] ⟨env, ([] : List Ob)⟩) = T44 call (fun s0 s1 i2 => again (tdOf Tryd.f44 0) (K44_0 s0 s1 i2)) a0 := by kernel_rfl
def L44 (call : FuncId → Fun) : Nat → (List UInt8 → List UInt8 → Int → Option (V × List Ob))
  | 0 => fun _ _ _ => none
  | n + 1 => T44_0 call (L44 call n)
theorem R44 (call : FuncId → Fun) (icall : ICall (V × List Ob)) (a0 : List UInt8) : ∀ n, (∀ (s0 : List UInt8) (s1 : List UInt8) (i2 : Int), Go.Ev.runN cfg call icall (slotsOf Tryd.f44.results.toList) (List.length (([] : List Ob) : List Ob)) (finV cfg Tryd.f44 (finish cfg Tryd.f44 44 (List.map OSh.of (([] : List Ob) : List Ob)))) n (tdOf Tryd.f44 0) (K44_0 s0 s1 i2) = (L44 call n) s0 s1 i2)
  | 0 => fun s0 s1 i2 => rfl
  | n + 1 => by
    have ih := R44 call icall a0 n
    exact fun s0 s1 i2 => (S44_0 call icall (Go.Ev.runN cfg call icall (slotsOf Tryd.f44.results.toList) (List.length (([] : List Ob) : List Ob)) (finV cfg Tryd.f44 (finish cfg Tryd.f44 44 (List.map OSh.of (([] : List Ob) : List Ob)))) n) a0 s0 s1 i2).trans (by
      rw [show (fun s0 s1 i2 => Go.Ev.runN cfg call icall (slotsOf Tryd.f44.results.toList) (List.length (([] : List Ob) : List Ob)) (finV cfg Tryd.f44 (finish cfg Tryd.f44 44 (List.map OSh.of (([] : List Ob) : List Ob)))) n (tdOf Tryd.f44 0) (K44_0 s0 s1 i2)) = (L44 call n) from (funext fun s0 => funext fun s1 => funext fun i2 => ih s0 s1 i2)]; rfl)
theorem C44 (k : Nat) (a0 : List UInt8) : callN cfg (k + 1) 44 [V.str a0] ([] : List Ob) = T44 (callN cfg k) (L44 (callN cfg k) k) a0 := by
  have ih := R44 (callN cfg k) (icallN cfg (callN cfg k) 20) a0 k
  refine (show callN cfg (k + 1) 44 [V.str a0] ([] : List Ob) = (envK [V.str a0] Tryd.f44.ntmps fun env => runM cfg (callN cfg k) (icallN cfg (callN cfg k) 20) (slotsOf Tryd.f44.results.toList) (List.length (([] : List Ob) : List Ob)) (Go.Ev.runN cfg (callN cfg k) (icallN cfg (callN cfg k) 20) (slotsOf Tryd.f44.results.toList) (List.length (([] : List Ob) : List Ob)) (finV cfg Tryd.f44 (finish cfg Tryd.f44 44 (List.map OSh.of (([] : List Ob) : List Ob)))) k) (finV cfg Tryd.f44 (finish cfg Tryd.f44 44 (List.map OSh.of (([] : List Ob) : List Ob)))) depth [.code (codeOf Tryd.f44)] ⟨env, ([] : List Ob)⟩) by kernel_rfl).trans ((E44 _ _ _ a0).trans ?_)
  rw [show (fun s0 s1 i2 => Go.Ev.runN cfg (callN cfg k) (icallN cfg (callN cfg k) 20) (slotsOf Tryd.f44.results.toList) (List.length (([] : List Ob) : List Ob)) (finV cfg Tryd.f44 (finish cfg Tryd.f44 44 (List.map OSh.of (([] : List Ob) : List Ob)))) k (tdOf Tryd.f44 0) (K44_0 s0 s1 i2)) = (L44 (callN cfg k) k) from (funext fun s0 => funext fun s1 => funext fun i2 => ih s0 s1 i2)]
theorem M44 (a0 : List UInt8) {r : V × List Ob} (h : Evt (fun k n => T44 (callN cfg k) (L44 (callN cfg k) n) a0) r) : Ret 44 [V.str a0] ([] : List Ob) r := ret_mk (g := fun k n => T44 (callN cfg k) (L44 (callN cfg k) n) a0) (fun k => C44 k a0) h
theorem N44_0 (s0 : List UInt8) (s1 : List UInt8) (i2 : Int) {r : V × List Ob} (h : Evt (fun k n => T44_0 (callN cfg k) (L44 (callN cfg k) n) s0 s1 i2) r) : Evt (fun k n => (L44 (callN cfg k) n) s0 s1 i2) r := evt_step (g' := fun k n => T44_0 (callN cfg k) (L44 (callN cfg k) n) s0 s1 i2) (fun _k _n => rfl) h

def T45_0 (_call : FuncId → Fun) (ag0 : List V → List UInt8 → Int → Option (V × List Ob)) (l0 : List V) (s1 : List UInt8) (i2 : Int) : Option (V × List Ob) :=
  if (decide (i2 < ((List.length l0 : Nat) : Int))) = true then
    chk (decide (0 ≤ i2)) (chk (decide (i2 < ((List.length l0 : Nat) : Int))) (if (sEq (V.getS (List.headD (V.cells (List.getD l0 (Int.toNat i2) V.bot)) V.bot)) s1) = true then
      some ((V.int IntKind.i64 i2), [])
    else
      (ag0 (l0) (s1) ((IntKind.wrap IntKind.i64 (i2 + (1 : Int)))))))
  else
    some ((V.int IntKind.i64 (-1 : Int)), [])
def T45 (_call : FuncId → Fun) (ag0 : List V → List UInt8 → Int → Option (V × List Ob)) (a0 : List V) (a1 : List UInt8) : Option (V × List Ob) :=
  (ag0 (a0) (a1) ((0 : Int)))
def K45_0 (l0 : List V) (s1 : List UInt8) (i2 : Int) : St := ⟨[(V.lst 62 false l0), (V.str s1), V.bot, V.bot, V.bot, (V.int IntKind.i64 i2), V.bot, V.bot, V.bot, V.bot, V.bot, V.bot, V.bot, V.bot, V.bot, V.bot, V.bot, V.bot, V.bot, V.bot], []⟩
theorem S45_0 (call : FuncId → Fun) (icall : ICall (V × List Ob)) (again : List It → St → Option (V × List Ob)) (_a0 : List V) (_a1 : List UInt8) (l0 : List V) (s1 : List UInt8) (i2 : Int) :
    runM cfg call icall (slotsOf Tryd.f45.results.toList) (List.length (([] : List Ob) : List Ob)) again (finV cfg Tryd.f45 (finish cfg Tryd.f45 45 (List.map OSh.of (([] : List Ob) : List Ob)))) depth (tdOf Tryd.f45 0) (K45_0 l0 s1 i2) = T45_0 call (fun l0 s1 i2 => again (tdOf Tryd.f45 0) (K45_0 l0 s1 i2)) l0 s1 i2 := by kernel_rfl
theorem E45 (call : FuncId → Fun) (icall : ICall (V × List Ob)) (again : List It → St → Option (V × List Ob)) (a0 : List V) (a1 : List UInt8) :
    (envK [V.lst 62 false a0, V.str a1] Tryd.f45.ntmps fun env => runM cfg call icall (slotsOf Tryd.f45.results.toList) (List.length (([] : List Ob) : List Ob)) again (finV cfg Tryd.f45 (finish cfg Tryd.f45 45 (List.map OSh.of (([] : List Ob) : List Ob)))) depth [.code (codeOf Tryd.f45)] ⟨env, ([] : List Ob)⟩) = T45 call (fun l0 s1 i2 => again (tdOf Tryd.f45 0) (K45_0 l0 s1 i2)) a0 a1 := by kernel_rfl
def L45 (call : FuncId → Fun) : Nat → (List V → List UInt8 → Int → Option (V × List Ob))
  | 0 => fun _ _ _ => none
  | n + 1 => T45_0 call (L45 call n)
theorem R45 (call : FuncId → Fun) (icall : ICall (V × List Ob)) (a0 : List V) (a1 : List UInt8) : ∀ n, (∀ (l0 : List V) (s1 : List UInt8) (i2 : Int), Go.Ev.runN cfg call icall (slotsOf Tryd.f45.results.toList) (List.length (([] : List Ob) : List Ob)) (finV cfg Tryd.f45 (finish cfg Tryd.f45 45 (List.map OSh.of (([] : List Ob) : List Ob)))) n (tdOf Tryd.f45 0) (K45_0 l0 s1 i2) = (L45 call n) l0 s1 i2)
  | 0 => fun l0 s1 i2 => rfl
  | n + 1 => by
    have ih := R45 call icall a0 a1 n
    exact fun l0 s1 i2 => (S45_0 call icall (Go.Ev.runN cfg call icall (slotsOf Tryd.f45.results.toList) (List.length (([] : List Ob) : List Ob)) (finV cfg Tryd.f45 (finish cfg Tryd.f45 45 (List.map OSh.of (([] : List Ob) : List Ob)))) n) a0 a1 l0 s1 i2).trans (by
      rw [show (fun l0 s1 i2 => Go.Ev.runN cfg call icall (slotsOf Tryd.f45.results.toList) (List.length (([] : List Ob) : List Ob)) (finV cfg Tryd.f45 (finish cfg Tryd.f45 45 (List.map OSh.of (([] : List Ob) : List Ob)))) n (tdOf Tryd.f45 0) (K45_0 l0 s1 i2)) = (L45 call n) from (funext fun l0 => funext fun s1 => funext fun i2 => ih l0 s1 i2)]; rfl)
theorem C45 (k : Nat) (a0 : List V) (a1 : List UInt8) : callN cfg (k + 1) 45 [V.lst 62 false a0, V.str a1] ([] : List Ob) = T45 (callN cfg k) (L45 (callN cfg k) k) a0 a1 := by
  have ih := R45 (callN cfg k) (icallN cfg (callN cfg k) 20) a0 a1 k
  refine (show callN cfg (k + 1) 45 [V.lst 62 false a0, V.str a1] ([] : List Ob) = (envK [V.lst 62 false a0, V.str a1] Tryd.f45.ntmps fun env => runM cfg (callN cfg k) (icallN cfg (callN cfg k) 20) (slotsOf Tryd.f45.results.toList) (List.length (([] : List Ob) : List Ob)) (Go.Ev.runN cfg (callN cfg k) (icallN cfg (callN cfg k) 20) (slotsOf Tryd.f45.results.toList) (List.length (([] : List Ob) : List Ob)) (finV cfg Tryd.f45 (finish cfg Tryd.f45 45 (List.map OSh.of (([] : List Ob) : List Ob)))) k) (finV cfg Tryd.f45 (finish cfg Tryd.f45 45 (List.map OSh.of (([] : List Ob) : List Ob)))) depth [.code (codeOf Tryd.f45)] ⟨env, ([] : List Ob)⟩) by kernel_rfl).trans ((E45 _ _ _ a0 a1).trans ?_)
  rw [show (fun l0 s1 i2 => Go.Ev.runN cfg (callN cfg k) (icallN cfg (callN cfg k) 20) (slotsOf Tryd.f45.results.toList) (List.length (([] : List Ob) : List Ob)) (finV cfg Tryd.f45 (finish cfg Tryd.f45 45 (List.map OSh.of (([] : List Ob) : List Ob)))) k (tdOf Tryd.f45 0) (K45_0 l0 s1 i2)) = (L45 (callN cfg k) k) from (funext fun l0 => funext fun s1 => funext fun i2 => ih l0 s1 i2)]
theorem M45 (a0 : List V) (a1 : List UInt8) {r : V × List Ob} (h : Evt (fun k n => T45 (callN cfg k) (L45 (callN cfg k) n) a0 a1) r) : Ret 45 [V.lst 62 false a0, V.str a1] ([] : List Ob) r := ret_mk (g := fun k n => T45 (callN cfg k) (L45 (callN cfg k) n) a0 a1) (fun k => C45 k a0 a1) h
theorem N45_0 (l0 : List V) (s1 : List UInt8) (i2 : Int) {r : V × List Ob} (h : Evt (fun k n => T45_0 (callN cfg k) (L45 (callN cfg k) n) l0 s1 i2) r) : Evt (fun k n => (L45 (callN cfg k) n) l0 s1 i2) r := evt_step (g' := fun k n => T45_0 (callN cfg k) (L45 (callN cfg k) n) l0 s1 i2) (fun _k _n => rfl) h

def T46_0 (call : FuncId → Fun) (ag0 : List UInt8 → List V → Int → Option (V × List Ob)) (s0 : List UInt8) (l1 : List V) (i2 : Int) : Option (V × List Ob) :=
  if (decide (i2 < ((List.length s0 : Nat) : Int))) = true then
    chk (decide (0 ≤ i2)) (chk (decide (i2 < ((List.length s0 : Nat) : Int))) (if (((UInt8.toNat (List.getD s0 (Int.toNat i2) 0) : Nat) : Int) == (37 : Int)) = true then
      if (decide ((IntKind.wrap IntKind.i64 (i2 + (2 : Int))) < ((List.length s0 : Nat) : Int))) = true then
        chk (decide (0 ≤ (IntKind.wrap IntKind.i64 (i2 + (1 : Int))))) (chk (decide ((IntKind.wrap IntKind.i64 (i2 + (1 : Int))) < ((List.length s0 : Nat) : Int))) (Option.bind (call 56 [(V.int IntKind.u8 ((UInt8.toNat (List.getD s0 (Int.toNat (IntKind.wrap IntKind.i64 (i2 + (1 : Int)))) 0) : Nat) : Int))] []) fun p0 =>
        if (decide ((V.getI p0.1) < (16 : Int))) = true then
          chk (decide (0 ≤ (IntKind.wrap IntKind.i64 (i2 + (2 : Int))))) (chk (decide ((IntKind.wrap IntKind.i64 (i2 + (2 : Int))) < ((List.length s0 : Nat) : Int))) (Option.bind (call 56 [(V.int IntKind.u8 ((UInt8.toNat (List.getD s0 (Int.toNat (IntKind.wrap IntKind.i64 (i2 + (2 : Int)))) 0) : Nat) : Int))] []) fun p1 =>
          if (decide ((V.getI p1.1) < (16 : Int))) = true then
            chk (decide (0 ≤ (IntKind.wrap IntKind.i64 (i2 + (1 : Int))))) (chk (decide ((IntKind.wrap IntKind.i64 (i2 + (1 : Int))) < ((List.length s0 : Nat) : Int))) (Option.bind (call 56 [(V.int IntKind.u8 ((UInt8.toNat (List.getD s0 (Int.toNat (IntKind.wrap IntKind.i64 (i2 + (1 : Int)))) 0) : Nat) : Int))] []) fun p2 =>
            chk (decide (0 ≤ (IntKind.wrap IntKind.i64 (i2 + (2 : Int))))) (chk (decide ((IntKind.wrap IntKind.i64 (i2 + (2 : Int))) < ((List.length s0 : Nat) : Int))) (Option.bind (call 56 [(V.int IntKind.u8 ((UInt8.toNat (List.getD s0 (Int.toNat (IntKind.wrap IntKind.i64 (i2 + (2 : Int)))) 0) : Nat) : Int))] []) fun p3 =>
            chk (appOk l1 [(V.int IntKind.u8 (IntKind.wrap IntKind.u8 (IntKind.wrap IntKind.i64 ((IntKind.wrap IntKind.i64 ((16 : Int) * (V.getI p2.1))) + (V.getI p3.1)))))] 2) ((ag0 (s0) ((l1 ++ [(V.int IntKind.u8 (IntKind.wrap IntKind.u8 (IntKind.wrap IntKind.i64 ((IntKind.wrap IntKind.i64 ((16 : Int) * (V.getI p2.1))) + (V.getI p3.1)))))])) ((IntKind.wrap IntKind.i64 (i2 + (3 : Int))))))))))
          else
            chk (decide (0 ≤ i2)) (chk (decide (i2 < ((List.length s0 : Nat) : Int))) (chk (appOk l1 [(V.int IntKind.u8 ((UInt8.toNat (List.getD s0 (Int.toNat i2) 0) : Nat) : Int))] 2) ((ag0 (s0) ((l1 ++ [(V.int IntKind.u8 ((UInt8.toNat (List.getD s0 (Int.toNat i2) 0) : Nat) : Int))])) ((IntKind.wrap IntKind.i64 (i2 + (1 : Int))))))))))
        else
          chk (decide (0 ≤ i2)) (chk (decide (i2 < ((List.length s0 : Nat) : Int))) (chk (appOk l1 [(V.int IntKind.u8 ((UInt8.toNat (List.getD s0 (Int.toNat i2) 0) : Nat) : Int))] 2) ((ag0 (s0) ((l1 ++ [(V.int IntKind.u8 ((UInt8.toNat (List.getD s0 (Int.toNat i2) 0) : Nat) : Int))])) ((IntKind.wrap IntKind.i64 (i2 + (1 : Int))))))))))
      else
        chk (decide (0 ≤ i2)) (chk (decide (i2 < ((List.length s0 : Nat) : Int))) (chk (appOk l1 [(V.int IntKind.u8 ((UInt8.toNat (List.getD s0 (Int.toNat i2) 0) : Nat) : Int))] 2) ((ag0 (s0) ((l1 ++ [(V.int IntKind.u8 ((UInt8.toNat (List.getD s0 (Int.toNat i2) 0) : Nat) : Int))])) ((IntKind.wrap IntKind.i64 (i2 + (1 : Int))))))))
    else
      chk (decide (0 ≤ i2)) (chk (decide (i2 < ((List.length s0 : Nat) : Int))) (chk (appOk l1 [(V.int IntKind.u8 ((UInt8.toNat (List.getD s0 (Int.toNat i2) 0) : Nat) : Int))] 2) ((ag0 (s0) ((l1 ++ [(V.int IntKind.u8 ((UInt8.toNat (List.getD s0 (Int.toNat i2) 0) : Nat) : Int))])) ((IntKind.wrap IntKind.i64 (i2 + (1 : Int))))))))))
  else
    some ((V.str (bytesOf l1)), [])
def T46 (_call : FuncId → Fun) (ag0 : List UInt8 → List V → Int → Option (V × List Ob)) (a0 : List UInt8) : Option (V × List Ob) :=
  (ag0 (a0) ([]) ((0 : Int)))
def K46_0 (s0 : List UInt8) (l1 : List V) (i2 : Int) : St := ⟨[(V.str s0), V.bot, V.bot, (V.lst 5 true l1), (V.int IntKind.i64 i2), V.bot, V.bot, V.bot, V.bot, V.bot, V.bot, V.bot, V.bot, V.bot, V.bot, V.bot, V.bot, V.bot, V.bot, V.bot, V.bot, V.bot, V.bot, V.bot, V.bot, V.bot, V.bot, V.bot, V.bot, V.bot, V.bot, V.bot, V.bot, V.bot, V.bot, V.bot, V.bot, V.bot, V.bot, V.bot, V.bot, V.bot, V.bot, V.bot, V.bot, V.bot, V.bot, V.bot, V.bot, V.bot, V.bot, V.bot, V.bot, V.bot, V.bot, V.bot, V.bot, V.bot, V.bot, V.bot, V.bot, V.bot, V.bot, V.bot], []⟩
theorem S46_0 (call : FuncId → Fun) (icall : ICall (V × List Ob)) (again : List It → St → Option (V × List Ob)) (_a0 : List UInt8) (s0 : List UInt8) (l1 : List V) (i2 : Int) :
    runM cfg call icall (slotsOf Tryd.f46.results.toList) (List.length (([] : List Ob) : List Ob)) again (finV cfg Tryd.f46 (finish cfg Tryd.f46 46 (List.map OSh.of (([] : List Ob) : List Ob)))) depth (tdOf Tryd.f46 0) (K46_0 s0 l1 i2) = T46_0 call (fun s0 l1 i2 => again (tdOf Tryd.f46 0) (K46_0 s0 l1 i2)) s0 l1 i2 := by kernel_rfl
theorem E46 (call : FuncId → Fun) (icall : ICall (V × List Ob)) (again : List It → St → Option (V × List Ob)) (a0 : List UInt8) :
    (envK [V.str a0] Tryd.f46.ntmps fun env => runM cfg call icall (slotsOf Tryd.f46.results.toList) (List.length (([] : List Ob) : List Ob)) again (finV cfg Tryd.f46 (finish cfg Tryd.f46 46 (List.map OSh.of (([] : List Ob) : List Ob)))) depth [.code (codeOf Tryd.f46)] ⟨env, ([] : List Ob)⟩) = T46 call (fun s0 l1 i2 => again (tdOf Tryd.f46 0) (K46_0 s0 l1 i2)) a0 := by kernel_rfl
def L46 (call : FuncId → Fun) : Nat → (List UInt8 → List V → Int → Option (V × List Ob))
  | 0 => fun _ _ _ => none
  | n + 1 => T46_0 call (L46 call n)
theorem R46 (call : FuncId → Fun) (icall : ICall (V × List Ob)) (a0 : List UInt8) : ∀ n, (∀ (s0 : List UInt8) (l1 : List V) (i2 : Int), Go.Ev.runN cfg call icall (slotsOf Tryd.f46.results.toList) (List.length (([] : List Ob) : List Ob)) (finV cfg Tryd.f46 (finish cfg Tryd.f46 46 (List.map OSh.of (([] : List Ob) : List Ob)))) n (tdOf Tryd.f46 0) (K46_0 s0 l1 i2) = (L46 call n) s0 l1 i2)
  | 0 => fun s0 l1 i2 => rfl
  | n + 1 => by
    have ih := R46 call icall a0 n
    exact fun s0 l1 i2 => (S46_0 call icall (Go.Ev.runN cfg call icall (slotsOf Tryd.f46.results.toList) (List.length (([] : List Ob) : List Ob)) (finV cfg Tryd.f46 (finish cfg Tryd.f46 46 (List.map OSh.of (([] : List Ob) : List Ob)))) n) a0 s0 l1 i2).trans (by
      rw [show (fun s0 l1 i2 => Go.Ev.runN cfg call icall (slotsOf Tryd.f46.results.toList) (List.length (([] : List Ob) : List Ob)) (finV cfg Tryd.f46 (finish cfg Tryd.f46 46 (List.map OSh.of (([] : List Ob) : List Ob)))) n (tdOf Tryd.f46 0) (K46_0 s0 l1 i2)) = (L46 call n) from (funext fun s0 => funext fun l1 => funext fun i2 => ih s0 l1 i2)]; rfl)
theorem C46 (k : Nat) (a0 : List UInt8) : callN cfg (k + 1) 46 [V.str a0] ([] : List Ob) = T46 (callN cfg k) (L46 (callN cfg k) k) a0 := by
  have ih := R46 (callN cfg k) (icallN cfg (callN cfg k) 20) a0 k
  refine (show callN cfg (k + 1) 46 [V.str a0] ([] : List Ob) = (envK [V.str a0] Tryd.f46.ntmps fun env => runM cfg (callN cfg k) (icallN cfg (callN cfg k) 20) (slotsOf Tryd.f46.results.toList) (List.length (([] : List Ob) : List Ob)) (Go.Ev.runN cfg (callN cfg k) (icallN cfg (callN cfg k) 20) (slotsOf Tryd.f46.results.toList) (List.length (([] : List Ob) : List Ob)) (finV cfg Tryd.f46 (finish cfg Tryd.f46 46 (List.map OSh.of (([] : List Ob) : List Ob)))) k) (finV cfg Tryd.f46 (finish cfg Tryd.f46 46 (List.map OSh.of (([] : List Ob) : List Ob)))) depth [.code (codeOf Tryd.f46)] ⟨env, ([] : List Ob)⟩) by kernel_rfl).trans ((E46 _ _ _ a0).trans ?_)
  rw [show (fun s0 l1 i2 => Go.Ev.runN cfg (callN cfg k) (icallN cfg (callN cfg k) 20) (slotsOf Tryd.f46.results.toList) (List.length (([] : List Ob) : List Ob)) (finV cfg Tryd.f46 (finish cfg Tryd.f46 46 (List.map OSh.of (([] : List Ob) : List Ob)))) k (tdOf Tryd.f46 0) (K46_0 s0 l1 i2)) = (L46 (callN cfg k) k) from (funext fun s0 => funext fun l1 => funext fun i2 => ih s0 l1 i2)]
theorem M46 (a0 : List UInt8) {r : V × List Ob} (h : Evt (fun k n => T46 (callN cfg k) (L46 (callN cfg k) n) a0) r) : Ret 46 [V.str a0] ([] : List Ob) r := ret_mk (g := fun k n => T46 (callN cfg k) (L46 (callN cfg k) n) a0) (fun k => C46 k a0) h
theorem N46_0 (s0 : List UInt8) (l1 : List V) (i2 : Int) {r : V × List Ob} (h : Evt (fun k n => T46_0 (callN cfg k) (L46 (callN cfg k) n) s0 l1 i2) r) : Evt (fun k n => (L46 (callN cfg k) n) s0 l1 i2) r := evt_step (g' := fun k n => T46_0 (callN cfg k) (L46 (callN cfg k) n) s0 l1 i2) (fun _k _n => rfl) h

def T47_0 (_call : FuncId → Fun) (ag0 : List UInt8 → Int → Int → Option (V × List Ob)) (s0 : List UInt8) (i1 : Int) (i2 : Int) : Option (V × List Ob) :=
  if (decide (i2 < ((List.length s0 : Nat) : Int))) = true then
    chk (decide (0 ≤ i2)) (chk (decide (i2 < ((List.length s0 : Nat) : Int))) (if (((UInt8.toNat (List.getD s0 (Int.toNat i2) 0) : Nat) : Int) == (39 : Int)) = true then
      if ((IntKind.wrap IntKind.i64 (i1 + (1 : Int))) == (2 : Int)) = true then
        chk (decide (0 ≤ (IntKind.wrap IntKind.i64 (i2 + (1 : Int))))) (chk (decide ((IntKind.wrap IntKind.i64 (i2 + (1 : Int))) ≤ ((List.length s0 : Nat) : Int))) (some ((V.str (List.drop (Int.toNat (IntKind.wrap IntKind.i64 (i2 + (1 : Int)))) s0)), [])))
      else
        (ag0 (s0) ((IntKind.wrap IntKind.i64 (i1 + (1 : Int)))) ((IntKind.wrap IntKind.i64 (i2 + (1 : Int)))))
    else
      if (i1 == (2 : Int)) = true then
        chk (decide (0 ≤ (IntKind.wrap IntKind.i64 (i2 + (1 : Int))))) (chk (decide ((IntKind.wrap IntKind.i64 (i2 + (1 : Int))) ≤ ((List.length s0 : Nat) : Int))) (some ((V.str (List.drop (Int.toNat (IntKind.wrap IntKind.i64 (i2 + (1 : Int)))) s0)), [])))
      else
        (ag0 (s0) (i1) ((IntKind.wrap IntKind.i64 (i2 + (1 : Int)))))))
  else
    some ((V.str s0), [])
def T47 (_call : FuncId → Fun) (ag0 : List UInt8 → Int → Int → Option (V × List Ob)) (a0 : List UInt8) : Option (V × List Ob) :=
  (ag0 (a0) ((0 : Int)) ((0 : Int)))
def K47_0 (s0 : List UInt8) (i1 : Int) (i2 : Int) : St := ⟨[(V.str s0), V.bot, V.bot, (V.int IntKind.i64 i1), (V.int IntKind.i64 i2), V.bot, V.bot, V.bot, V.bot, V.bot, V.bot, V.bot, V.bot, V.bot, V.bot, V.bot, V.bot, V.bot, V.bot, V.bot, V.bot, V.bot, V.bot, V.bot], []⟩
theorem S47_0 (call : FuncId → Fun) (icall : ICall (V × List Ob)) (again : List It → St → Option (V × List Ob)) (_a0 : List UInt8) (s0 : List UInt8) (i1 : Int) (i2 : Int) :
    runM cfg call icall (slotsOf Tryd.f47.results.toList) (List.length (([] : List Ob) : List Ob)) again (finV cfg Tryd.f47 (finish cfg Tryd.f47 47 (List.map OSh.of (([] : List Ob) : List Ob)))) depth (tdOf Tryd.f47 0) (K47_0 s0 i1 i2) = T47_0 call (fun s0 i1 i2 => again (tdOf Tryd.f47 0) (K47_0 s0 i1 i2)) s0 i1 i2 := by kernel_rfl
theorem E47 (call : FuncId → Fun) (icall : ICall (V × List Ob)) (again : List It → St → Option (V × List Ob)) (a0 : List UInt8) :
    (envK [V.str a0] Tryd.f47.ntmps fun env => runM cfg call icall (slotsOf Tryd.f47.results.toList) (List.length (([] : List Ob) : List Ob)) again (finV cfg Tryd.f47 (finish cfg Tryd.f47 47 (List.map OSh.of (([] : List Ob) : List Ob)))) depth [.code (codeOf Tryd.f47)] ⟨env, ([] : List Ob)⟩) = T47 call (fun s0 i1 i2 => again (tdOf Tryd.f47 0) (K47_0 s0 i1 i2)) a0 := by kernel_rfl
def L47 (call : FuncId → Fun) : Nat → (List UInt8 → Int → Int → Option (V × List Ob))
  | 0 => fun _ _ _ => none
  | n + 1 => T47_0 call (L47 call n)
theorem R47 (call : FuncId → Fun) (icall : ICall (V × List Ob)) (a0 : List UInt8) : ∀ n, (∀ (s0 : List UInt8) (i1 : Int) (i2 : Int), Go.Ev.runN cfg call icall (slotsOf Tryd.f47.results.toList) (List.length (([] : List Ob) : List Ob)) (finV cfg Tryd.f47 (finish cfg Tryd.f47 47 (List.map OSh.of (([] : List Ob) : List Ob)))) n (tdOf Tryd.f47 0) (K47_0 s0 i1 i2) = (L47 call n) s0 i1 i2)
  | 0 => fun s0 i1 i2 => rfl
  | n + 1 => by
    have ih := R47 call icall a0 n
    exact fun s0 i1 i2 => (S47_0 call icall (Go.Ev.runN cfg call icall (slotsOf Tryd.f47.results.toList) (List.length (([] : List Ob) : List Ob)) (finV cfg Tryd.f47 (finish cfg Tryd.f47 47 (List.map OSh.of (([] : List Ob) : List Ob)))) n) a0 s0 i1 i2).trans (by
      rw [show (fun s0 i1 i2 => Go.Ev.runN cfg call icall (slotsOf Tryd.f47.results.toList) (List.length (([] : List Ob) : List Ob)) (finV cfg Tryd.f47 (finish cfg Tryd.f47 47 (List.map OSh.of (([] : List Ob) : List Ob)))) n (tdOf Tryd.f47 0) (K47_0 s0 i1 i2)) = (L47 call n) from (funext fun s0 => funext fun i1 => funext fun i2 => ih s0 i1 i2)]; rfl)
theorem C47 (k : Nat) (a0 : List UInt8) : callN cfg (k + 1) 47 [V.str a0] ([] : List Ob) = T47 (callN cfg k) (L47 (callN cfg k) k) a0 := by
  have ih := R47 (callN cfg k) (icallN cfg (callN cfg k) 20) a0 k
  refine (show callN cfg (k + 1) 47 [V.str a0] ([] : List Ob) = (envK [V.str a0] Tryd.f47.ntmps fun env => runM cfg (callN cfg k) (icallN cfg (callN cfg k) 20) (slotsOf Tryd.f47.results.toList) (List.length (([] : List Ob) : List Ob)) (Go.Ev.runN cfg (callN cfg k) (icallN cfg (callN cfg k) 20) (slotsOf Tryd.f47.results.toList) (List.length (([] : List Ob) : List Ob)) (finV cfg Tryd.f47 (finish cfg Tryd.f47 47 (List.map OSh.of (([] : List Ob) : List Ob)))) k) (finV cfg Tryd.f47 (finish cfg Tryd.f47 47 (List.map OSh.of (([] : List Ob) : List Ob)))) depth [.code (codeOf Tryd.f47)] ⟨env, ([] : List Ob)⟩) by kernel_rfl).trans ((E47 _ _ _ a0).trans ?_)
  rw [show (fun s0 i1 i2 => Go.Ev.runN cfg (callN cfg k) (icallN cfg (callN cfg k) 20) (slotsOf Tryd.f47.results.toList) (List.length (([] : List Ob) : List Ob)) (finV cfg Tryd.f47 (finish cfg Tryd.f47 47 (List.map OSh.of (([] : List Ob) : List Ob)))) k (tdOf Tryd.f47 0) (K47_0 s0 i1 i2)) = (L47 (callN cfg k) k) from (funext fun s0 => funext fun i1 => funext fun i2 => ih s0 i1 i2)]
theorem M47 (a0 : List UInt8) {r : V × List Ob} (h : Evt (fun k n => T47 (callN cfg k) (L47 (callN cfg k) n) a0) r) : Ret 47 [V.str a0] ([] : List Ob) r := ret_mk (g := fun k n => T47 (callN cfg k) (L47 (callN cfg k) n) a0) (fun k => C47 k a0) h
theorem N47_0 (s0 : List UInt8) (i1 : Int) (i2 : Int) {r : V × List Ob} (h : Evt (fun k n => T47_0 (callN cfg k) (L47 (callN cfg k) n) s0 i1 i2) r) : Evt (fun k n => (L47 (callN cfg k) n) s0 i1 i2) r := evt_step (g' := fun k n => T47_0 (callN cfg k) (L47 (callN cfg k) n) s0 i1 i2) (fun _k _n => rfl) h

def T48 (call : FuncId → Fun)  (a0 : Int) : Option (V × List Ob) :=
  if (decide (a0 < (0 : Int))) = true then
    Option.bind (call 57 [(V.int IntKind.u64 (IntKind.wrap IntKind.u64 ((IntKind.wrap IntKind.u64 (IntKind.wrap IntKind.i64 ((0 : Int) - (IntKind.wrap IntKind.i64 (a0 + (1 : Int)))))) + (1 : Int))))] []) fun p0 =>
    chk (catOk [45] (V.getS p0.1)) (some ((V.str ([45] ++ (V.getS p0.1))), []))
  else
    Option.bind (call 57 [(V.int IntKind.u64 (IntKind.wrap IntKind.u64 a0))] []) fun p0 =>
    some ((V.str (V.getS p0.1)), [])
theorem E48 (call : FuncId → Fun) (icall : ICall (V × List Ob)) (again : List It → St → Option (V × List Ob)) (a0 : Int) :
    (envK [V.int IntKind.i64 a0] Tryd.f48.ntmps fun env => runM cfg call icall (slotsOf Tryd.f48.results.toList) (List.length (([] : List Ob) : List Ob)) again (finV cfg Tryd.f48 (finish cfg Tryd.f48 48 (List.map OSh.of (([] : List Ob) : List Ob)))) depth [.code (codeOf Tryd.f48)] ⟨env, ([] : List Ob)⟩) = T48 call  a0 := by kernel_rfl
theorem C48 (k : Nat) (a0 : Int) : callN cfg (k + 1) 48 [V.int IntKind.i64 a0] ([] : List Ob) = T48 (callN cfg k) a0 :=
  (show callN cfg (k + 1) 48 [V.int IntKind.i64 a0] ([] : List Ob) = (envK [V.int IntKind.i64 a0] Tryd.f48.ntmps fun env => runM cfg (callN cfg k) (icallN cfg (callN cfg k) 20) (slotsOf Tryd.f48.results.toList) (List.length (([] : List Ob) : List Ob)) (Go.Ev.runN cfg (callN cfg k) (icallN cfg (callN cfg k) 20) (slotsOf Tryd.f48.results.toList) (List.length (([] : List Ob) : List Ob)) (finV cfg Tryd.f48 (finish cfg Tryd.f48 48 (List.map OSh.of (([] : List Ob) : List Ob)))) k) (finV cfg Tryd.f48 (finish cfg Tryd.f48 48 (List.map OSh.of (([] : List Ob) : List Ob)))) depth [.code (codeOf Tryd.f48)] ⟨env, ([] : List Ob)⟩) by kernel_rfl).trans (E48 _ _ _ a0)
theorem M48 (a0 : Int) {r : V × List Ob} (h : Evt (fun k _n => T48 (callN cfg k)  a0) r) : Ret 48 [V.int IntKind.i64 a0] ([] : List Ob) r := ret_mk (g := fun k _n => T48 (callN cfg k)  a0) (fun k => C48 k a0) h

def T55_0 (_call : FuncId → Fun) (ag0 : List UInt8 → Int → Int → Option (V × List Ob)) (s0 : List UInt8) (i1 : Int) (i2 : Int) : Option (V × List Ob) :=
  if (decide (i2 < ((List.length s0 : Nat) : Int))) = true then
    chk (decide (0 ≤ i2)) (chk (decide (i2 < ((List.length s0 : Nat) : Int))) (if (((UInt8.toNat (List.getD s0 (Int.toNat i2) 0) : Nat) : Int) == i1) = true then
      some ((V.bool true), [])
    else
      (ag0 (s0) (i1) ((IntKind.wrap IntKind.i64 (i2 + (1 : Int)))))))
  else
    some ((V.bool false), [])
def T55 (_call : FuncId → Fun) (ag0 : List UInt8 → Int → Int → Option (V × List Ob)) (a0 : List UInt8) (a1 : Int) : Option (V × List Ob) :=
  (ag0 (a0) (a1) ((0 : Int)))
def K55_0 (s0 : List UInt8) (i1 : Int) (i2 : Int) : St := ⟨[(V.str s0), (V.int IntKind.u8 i1), V.bot, V.bot, V.bot, (V.int IntKind.i64 i2), V.bot, V.bot, V.bot, V.bot, V.bot, V.bot, V.bot, V.bot, V.bot, V.bot, V.bot], []⟩
theorem S55_0 (call : FuncId → Fun) (icall : ICall (V × List Ob)) (again : List It → St → Option (V × List Ob)) (_a0 : List UInt8) (_a1 : Int) (s0 : List UInt8) (i1 : Int) (i2 : Int) :
    runM cfg call icall (slotsOf Tryd.f55.results.toList) (List.length (([] : List Ob) : List Ob)) again (finV cfg Tryd.f55 (finish cfg Tryd.f55 55 (List.map OSh.of (([] : List Ob) : List Ob)))) depth (tdOf Tryd.f55 0) (K55_0 s0 i1 i2) = T55_0 call (fun s0 i1 i2 => again (tdOf Tryd.f55 0) (K55_0 s0 i1 i2)) s0 i1 i2 := by kernel_rfl
theorem E55 (call : FuncId → Fun) (icall : ICall (V × List Ob)) (again : List It → St → Option (V × List Ob)) (a0 : List UInt8) (a1 : Int) :
    (envK [V.str a0, V.int IntKind.u8 a1] Tryd.f55.ntmps fun env => runM cfg call icall (slotsOf Tryd.f55.results.toList) (List.length (([] : List Ob) : List Ob)) again (finV cfg Tryd.f55 (finish cfg Tryd.f55 55 (List.map OSh.of (([] : List Ob) : List Ob)))) depth [.code (codeOf Tryd.f55)] ⟨env, ([] : List Ob)⟩) = T55 call (fun s0 i1 i2 => again (tdOf Tryd.f55 0) (K55_0 s0 i1 i2)) a0 a1 := by kernel_rfl
def L55 (call : FuncId → Fun) : Nat → (List UInt8 → Int → Int → Option (V × List Ob))
  | 0 => fun _ _ _ => none
  | n + 1 => T55_0 call (L55 call n)
theorem R55 (call : FuncId → Fun) (icall : ICall (V × List Ob)) (a0 : List UInt8) (a1 : Int) : ∀ n, (∀ (s0 : List UInt8) (i1 : Int) (i2 : Int), Go.Ev.runN cfg call icall (slotsOf Tryd.f55.results.toList) (List.length (([] : List Ob) : List Ob)) (finV cfg Tryd.f55 (finish cfg Tryd.f55 55 (List.map OSh.of (([] : List Ob) : List Ob)))) n (tdOf Tryd.f55 0) (K55_0 s0 i1 i2) = (L55 call n) s0 i1 i2)
  | 0 => fun s0 i1 i2 => rfl
  | n + 1 => by
    have ih := R55 call icall a0 a1 n
    exact fun s0 i1 i2 => (S55_0 call icall (Go.Ev.runN cfg call icall (slotsOf Tryd.f55.results.toList) (List.length (([] : List Ob) : List Ob)) (finV cfg Tryd.f55 (finish cfg Tryd.f55 55 (List.map OSh.of (([] : List Ob) : List Ob)))) n) a0 a1 s0 i1 i2).trans (by
      rw [show (fun s0 i1 i2 => Go.Ev.runN cfg call icall (slotsOf Tryd.f55.results.toList) (List.length (([] : List Ob) : List Ob)) (finV cfg Tryd.f55 (finish cfg Tryd.f55 55 (List.map OSh.of (([] : List Ob) : List Ob)))) n (tdOf Tryd.f55 0) (K55_0 s0 i1 i2)) = (L55 call n) from (funext fun s0 => funext fun i1 => funext fun i2 => ih s0 i1 i2)]; rfl)
theorem C55 (k : Nat) (a0 : List UInt8) (a1 : Int) : callN cfg (k + 1) 55 [V.str a0, V.int IntKind.u8 a1] ([] : List Ob) = T55 (callN cfg k) (L55 (callN cfg k) k) a0 a1 := by
  have ih := R55 (callN cfg k) (icallN cfg (callN cfg k) 20) a0 a1 k
  refine (show callN cfg (k + 1) 55 [V.str a0, V.int IntKind.u8 a1] ([] : List Ob) = (envK [V.str a0, V.int IntKind.u8 a1] Tryd.f55.ntmps fun env => runM cfg (callN cfg k) (icallN cfg (callN cfg k) 20) (slotsOf Tryd.f55.results.toList) (List.length (([] : List Ob) : List Ob)) (Go.Ev.runN cfg (callN cfg k) (icallN cfg (callN cfg k) 20) (slotsOf Tryd.f55.results.toList) (List.length (([] : List Ob) : List Ob)) (finV cfg Tryd.f55 (finish cfg Tryd.f55 55 (List.map OSh.of (([] : List Ob) : List Ob)))) k) (finV cfg Tryd.f55 (finish cfg Tryd.f55 55 (List.map OSh.of (([] : List Ob) : List Ob)))) depth [.code (codeOf Tryd.f55)] ⟨env, ([] : List Ob)⟩) by kernel_rfl).trans ((E55 _ _ _ a0 a1).trans ?_)
  rw [show (fun s0 i1 i2 => Go.Ev.runN cfg (callN cfg k) (icallN cfg (callN cfg k) 20) (slotsOf Tryd.f55.results.toList) (List.length (([] : List Ob) : List Ob)) (finV cfg Tryd.f55 (finish cfg Tryd.f55 55 (List.map OSh.of (([] : List Ob) : List Ob)))) k (tdOf Tryd.f55 0) (K55_0 s0 i1 i2)) = (L55 (callN cfg k) k) from (funext fun s0 => funext fun i1 => funext fun i2 => ih s0 i1 i2)]
theorem M55 (a0 : List UInt8) (a1 : Int) {r : V × List Ob} (h : Evt (fun k n => T55 (callN cfg k) (L55 (callN cfg k) n) a0 a1) r) : Ret 55 [V.str a0, V.int IntKind.u8 a1] ([] : List Ob) r := ret_mk (g := fun k n => T55 (callN cfg k) (L55 (callN cfg k) n) a0 a1) (fun k => C55 k a0 a1) h
theorem N55_0 (s0 : List UInt8) (i1 : Int) (i2 : Int) {r : V × List Ob} (h : Evt (fun k n => T55_0 (callN cfg k) (L55 (callN cfg k) n) s0 i1 i2) r) : Evt (fun k n => (L55 (callN cfg k) n) s0 i1 i2) r := evt_step (g' := fun k n => T55_0 (callN cfg k) (L55 (callN cfg k) n) s0 i1 i2) (fun _k _n => rfl) h

def T56_0 (_call : FuncId → Fun) (ag0 : Int → Int → Option (V × List Ob)) (i0 : Int) (i1 : Int) : Option (V × List Ob) :=
  if (decide (i1 < (16 : Int))) = true then
    Option.bind (chk (decide (0 ≤ i1)) (chk (decide (i1 < ((List.length [48, 49, 50, 51, 52, 53, 54, 55, 56, 57, 97, 98, 99, 100, 101, 102] : Nat) : Int))) (if (i0 == ((UInt8.toNat (List.getD [48, 49, 50, 51, 52, 53, 54, 55, 56, 57, 97, 98, 99, 100, 101, 102] (Int.toNat i1) 0) : Nat) : Int)) = false then
        chk (decide (0 ≤ i1)) (chk (decide (i1 < ((List.length [48, 49, 50, 51, 52, 53, 54, 55, 56, 57, 65, 66, 67, 68, 69, 70] : Nat) : Int))) (some (i0 == ((UInt8.toNat (List.getD [48, 49, 50, 51, 52, 53, 54, 55, 56, 57, 65, 66, 67, 68, 69, 70] (Int.toNat i1) 0) : Nat) : Int))))
      else
        some true))) fun b0 =>
    if b0 = true then
      some ((V.int IntKind.i64 i1), [])
    else
      (ag0 (i0) ((IntKind.wrap IntKind.i64 (i1 + (1 : Int)))))
  else
    some ((V.int IntKind.i64 (16 : Int)), [])
def T56 (_call : FuncId → Fun) (ag0 : Int → Int → Option (V × List Ob)) (a0 : Int) : Option (V × List Ob) :=
  (ag0 (a0) ((0 : Int)))
def K56_0 (i0 : Int) (i1 : Int) : St := ⟨[(V.int IntKind.u8 i0), V.bot, V.bot, (V.int IntKind.i64 i1), V.bot, V.bot, V.bot, V.bot, V.bot, V.bot, V.bot, V.bot, V.bot, V.bot, V.bot, V.bot, V.bot, V.bot, V.bot], []⟩
theorem S56_0 (call : FuncId → Fun) (icall : ICall (V × List Ob)) (again : List It → St → Option (V × List Ob)) (_a0 : Int) (i0 : Int) (i1 : Int) :
    runM cfg call icall (slotsOf Tryd.f56.results.toList) (List.length (([] : List Ob) : List Ob)) again (finV cfg Tryd.f56 (finish cfg Tryd.f56 56 (List.map OSh.of (([] : List Ob) : List Ob)))) depth (tdOf Tryd.f56 0) (K56_0 i0 i1) = T56_0 call (fun i0 i1 => again (tdOf Tryd.f56 0) (K56_0 i0 i1)) i0 i1 := by kernel_rfl
theorem E56 (call : FuncId → Fun) (icall : ICall (V × List Ob)) (again : List It → St → Option (V × List Ob)) (a0 : Int) :
    (envK [V.int IntKind.u8 a0] Tryd.f56.ntmps fun env => runM cfg call icall (slotsOf Tryd.f56.results.toList) (List.length (([] : List Ob) : List Ob)) again (finV cfg Tryd.f56 (finish cfg Tryd.f56 56 (List.map OSh.of (([] : List Ob) : List Ob)))) depth [.code (codeOf Tryd.f56)] ⟨env, ([] : List Ob)⟩) = T56 call (fun i0 i1 => again (tdOf Tryd.f56 0) (K56_0 i0 i1)) a0 := by kernel_rfl
def L56 (call : FuncId → Fun) : Nat → (Int → Int → Option (V × List Ob))
  | 0 => fun _ _ => none
  | n + 1 => T56_0 call (L56 call n)
theorem R56 (call : FuncId → Fun) (icall : ICall (V × List Ob)) (a0 : Int) : ∀ n, (∀ (i0 : Int) (i1 : Int), Go.Ev.runN cfg call icall (slotsOf Tryd.f56.results.toList) (List.length (([] : List Ob) : List Ob)) (finV cfg Tryd.f56 (finish cfg Tryd.f56 56 (List.map OSh.of (([] : List Ob) : List Ob)))) n (tdOf Tryd.f56 0) (K56_0 i0 i1) = (L56 call n) i0 i1)
  | 0 => fun i0 i1 => rfl
  | n + 1 => by
    have ih := R56 call icall a0 n
    exact fun i0 i1 => (S56_0 call icall (Go.Ev.runN cfg call icall (slotsOf Tryd.f56.results.toList) (List.length (([] : List Ob) : List Ob)) (finV cfg Tryd.f56 (finish cfg Tryd.f56 56 (List.map OSh.of (([] : List Ob) : List Ob)))) n) a0 i0 i1).trans (by
      rw [show (fun i0 i1 => Go.Ev.runN cfg call icall (slotsOf Tryd.f56.results.toList) (List.length (([] : List Ob) : List Ob)) (finV cfg Tryd.f56 (finish cfg Tryd.f56 56 (List.map OSh.of (([] : List Ob) : List Ob)))) n (tdOf Tryd.f56 0) (K56_0 i0 i1)) = (L56 call n) from (funext fun i0 => funext fun i1 => ih i0 i1)]; rfl)
theorem C56 (k : Nat) (a0 : Int) : callN cfg (k + 1) 56 [V.int IntKind.u8 a0] ([] : List Ob) = T56 (callN cfg k) (L56 (callN cfg k) k) a0 := by
  have ih := R56 (callN cfg k) (icallN cfg (callN cfg k) 20) a0 k
  refine (show callN cfg (k + 1) 56 [V.int IntKind.u8 a0] ([] : List Ob) = (envK [V.int IntKind.u8 a0] Tryd.f56.ntmps fun env => runM cfg (callN cfg k) (icallN cfg (callN cfg k) 20) (slotsOf Tryd.f56.results.toList) (List.length (([] : List Ob) : List Ob)) (Go.Ev.runN cfg (callN cfg k) (icallN cfg (callN cfg k) 20) (slotsOf Tryd.f56.results.toList) (List.length (([] : List Ob) : List Ob)) (finV cfg Tryd.f56 (finish cfg Tryd.f56 56 (List.map OSh.of (([] : List Ob) : List Ob)))) k) (finV cfg Tryd.f56 (finish cfg Tryd.f56 56 (List.map OSh.of (([] : List Ob) : List Ob)))) depth [.code (codeOf Tryd.f56)] ⟨env, ([] : List Ob)⟩) by kernel_rfl).trans ((E56 _ _ _ a0).trans ?_)
  rw [show (fun i0 i1 => Go.Ev.runN cfg (callN cfg k) (icallN cfg (callN cfg k) 20) (slotsOf Tryd.f56.results.toList) (List.length (([] : List Ob) : List Ob)) (finV cfg Tryd.f56 (finish cfg Tryd.f56 56 (List.map OSh.of (([] : List Ob) : List Ob)))) k (tdOf Tryd.f56 0) (K56_0 i0 i1)) = (L56 (callN cfg k) k) from (funext fun i0 => funext fun i1 => ih i0 i1)]
theorem M56 (a0 : Int) {r : V × List Ob} (h : Evt (fun k n => T56 (callN cfg k) (L56 (callN cfg k) n) a0) r) : Ret 56 [V.int IntKind.u8 a0] ([] : List Ob) r := ret_mk (g := fun k n => T56 (callN cfg k) (L56 (callN cfg k) n) a0) (fun k => C56 k a0) h
theorem N56_0 (i0 : Int) (i1 : Int) {r : V × List Ob} (h : Evt (fun k n => T56_0 (callN cfg k) (L56 (callN cfg k) n) i0 i1) r) : Evt (fun k n => (L56 (callN cfg k) n) i0 i1) r := evt_step (g' := fun k n => T56_0 (callN cfg k) (L56 (callN cfg k) n) i0 i1) (fun _k _n => rfl) h

def T57 (call : FuncId → Fun)  (a0 : Int) : Option (V × List Ob) :=
  if (decide (a0 < (10 : Int))) = true then
    chk (decide (0 ≤ (IntKind.wrap IntKind.u64 (a0 + (1 : Int))))) (chk (decide ((IntKind.wrap IntKind.u64 (a0 + (1 : Int))) ≤ ((List.length [48, 49, 50, 51, 52, 53, 54, 55, 56, 57] : Nat) : Int))) (chk (decide (0 ≤ a0)) (chk (decide (a0 ≤ (IntKind.wrap IntKind.u64 (a0 + (1 : Int))))) (some ((V.str (List.drop (Int.toNat a0) (List.take (Int.toNat (IntKind.wrap IntKind.u64 (a0 + (1 : Int)))) [48, 49, 50, 51, 52, 53, 54, 55, 56, 57]))), [])))))
  else
    chk ((10 : Int) != 0) (Option.bind (call 57 [(V.int IntKind.u64 (IntKind.wrap IntKind.u64 (Int.tdiv a0 (10 : Int))))] []) fun p0 =>
    chk ((10 : Int) != 0) (chk ((10 : Int) != 0) (chk (decide (0 ≤ (IntKind.wrap IntKind.u64 ((Int.tmod a0 (10 : Int)) + (1 : Int))))) (chk (decide ((IntKind.wrap IntKind.u64 ((Int.tmod a0 (10 : Int)) + (1 : Int))) ≤ ((List.length [48, 49, 50, 51, 52, 53, 54, 55, 56, 57] : Nat) : Int))) (chk (decide (0 ≤ (Int.tmod a0 (10 : Int)))) (chk (decide ((Int.tmod a0 (10 : Int)) ≤ (IntKind.wrap IntKind.u64 ((Int.tmod a0 (10 : Int)) + (1 : Int))))) (chk (catOk (V.getS p0.1) (List.drop (Int.toNat (Int.tmod a0 (10 : Int))) (List.take (Int.toNat (IntKind.wrap IntKind.u64 ((Int.tmod a0 (10 : Int)) + (1 : Int)))) [48, 49, 50, 51, 52, 53, 54, 55, 56, 57]))) (some ((V.str ((V.getS p0.1) ++ (List.drop (Int.toNat (Int.tmod a0 (10 : Int))) (List.take (Int.toNat (IntKind.wrap IntKind.u64 ((Int.tmod a0 (10 : Int)) + (1 : Int)))) [48, 49, 50, 51, 52, 53, 54, 55, 56, 57])))), [])))))))))
theorem E57 (call : FuncId → Fun) (icall : ICall (V × List Ob)) (again : List It → St → Option (V × List Ob)) (a0 : Int) :
    (envK [V.int IntKind.u64 a0] Tryd.f57.ntmps fun env => runM cfg call icall (slotsOf Tryd.f57.results.toList) (List.length (([] : List Ob) : List Ob)) again (finV cfg Tryd.f57 (finish cfg Tryd.f57 57 (List.map OSh.of (([] : List Ob) : List Ob)))) depth [.code (codeOf Tryd.f57)] ⟨env, ([] : List Ob)⟩) = T57 call  a0 := by kernel_rfl
theorem C57 (k : Nat) (a0 : Int) : callN cfg (k + 1) 57 [V.int IntKind.u64 a0] ([] : List Ob) = T57 (callN cfg k) a0 :=
  (show callN cfg (k + 1) 57 [V.int IntKind.u64 a0] ([] : List Ob) = (envK [V.int IntKind.u64 a0] Tryd.f57.ntmps fun env => runM cfg (callN cfg k) (icallN cfg (callN cfg k) 20) (slotsOf Tryd.f57.results.toList) (List.length (([] : List Ob) : List Ob)) (Go.Ev.runN cfg (callN cfg k) (icallN cfg (callN cfg k) 20) (slotsOf Tryd.f57.results.toList) (List.length (([] : List Ob) : List Ob)) (finV cfg Tryd.f57 (finish cfg Tryd.f57 57 (List.map OSh.of (([] : List Ob) : List Ob)))) k) (finV cfg Tryd.f57 (finish cfg Tryd.f57 57 (List.map OSh.of (([] : List Ob) : List Ob)))) depth [.code (codeOf Tryd.f57)] ⟨env, ([] : List Ob)⟩) by kernel_rfl).trans (E57 _ _ _ a0)
theorem M57 (a0 : Int) {r : V × List Ob} (h : Evt (fun k _n => T57 (callN cfg k)  a0) r) : Ret 57 [V.int IntKind.u64 a0] ([] : List Ob) r := ret_mk (g := fun k n => T57 (callN cfg k)  a0) (fun k => C57 k a0) h

end Go.Proofs.YtmhhcoccfojiiaaDoor
