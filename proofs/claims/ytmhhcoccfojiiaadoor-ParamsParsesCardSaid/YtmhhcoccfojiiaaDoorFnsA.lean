/- What the functions of the seat's program compute, one by one. Written by mkfn.py off the plain reading's own prints; that it is so is shown by the kernel. -/
import Derived.Test.YtmhhcoccfojiiaaDoorEvW
import Derived.Test.YtmhhcoccfojiiaaDoorTac
import Derived.Test.YtmhhcoccfojiiaaDoorGlue
import Derived.Test.YtmhhcoccfojiiaaDoorSay
import Derived.KernelRfl
namespace Go.Proofs.YtmhhcoccfojiiaaDoor
open Go.Ev Go
set_option maxRecDepth 100000

def T8_0 (call : FuncId → Fun) (ag0 : List V → List V → Int → Int → List UInt8 → List UInt8 → List V → List UInt8 → List UInt8 → List UInt8 → List V → List (Sc × Sc) → Option (V × List Ob)) (l0 : List V) (l1 : List V) (i2 : Int) (i3 : Int) (s4 : List UInt8) (s5 : List UInt8) (l6 : List V) (s7 : List UInt8) (s8 : List UInt8) (s9 : List UInt8) (l10 : List V) (m11 : List (Sc × Sc)) : Option (V × List Ob) :=
  if (decide (i3 < i2)) = true then
    chk (decide (0 ≤ i3)) (chk (decide (i3 < ((List.length l1 : Nat) : Int))) (Option.bind (call 21 [(V.str (V.getS (List.headD (V.cells (List.getD l1 (Int.toNat i3) V.bot)) V.bot))), (V.str [42])] []) fun p0 =>
    Option.bind (if (sEq (V.getS (List.headD (V.getT p0.1) V.bot)) []) = false then
        some (Sc.getB (mget (Sc.str (V.getS (List.headD (V.getT p0.1) V.bot))) m11))
      else
        some true) fun b1 =>
    if b1 = true then
      (ag0 (l0) (l1) (i2) ((IntKind.wrap IntKind.i64 (i3 + (1 : Int)))) (s4) (s5) (l6) (s7) (s8) (s9) (l10) (m11))
    else
      Option.bind (call 22 [(V.lst 42 false l0), (V.str (V.getS (List.headD (V.getT p0.1) V.bot)))] []) fun p2 =>
      if (V.getB (List.headD (List.tail (V.getT p2.1)) V.bot)) = true then
        chk (appOk l10 [(V.agg [(V.str (V.getS (List.headD (V.getT p0.1) V.bot))), (V.str (V.getS (List.headD (V.getT p2.1) V.bot)))])] 33) ((ag0 (l0) (l1) (i2) ((IntKind.wrap IntKind.i64 (i3 + (1 : Int)))) (s4) (s5) (l6) (s7) (s8) (s9) ((l10 ++ [(V.agg [(V.str (V.getS (List.headD (V.getT p0.1) V.bot))), (V.str (V.getS (List.headD (V.getT p2.1) V.bot)))])])) ((mput (Sc.str (V.getS (List.headD (V.getT p0.1) V.bot))) (Sc.bool true) m11))))
      else
        (ag0 (l0) (l1) (i2) ((IntKind.wrap IntKind.i64 (i3 + (1 : Int)))) (s4) (s5) (l6) (s7) (s8) (s9) (l10) ((mput (Sc.str (V.getS (List.headD (V.getT p0.1) V.bot))) (Sc.bool true) m11)))))
  else
    some ((V.tup [(V.agg [(V.str s8), (V.str s9), (V.lst 42 false l10)]), (V.bool true)]), [])
def T8 (call : FuncId → Fun) (ag0 : List V → List V → Int → Int → List UInt8 → List UInt8 → List V → List UInt8 → List UInt8 → List UInt8 → List V → List (Sc × Sc) → Option (V × List Ob)) (a0 : List UInt8) (a1 : Bool) : Option (V × List Ob) :=
  Option.bind (call 16 [(V.agg [(V.ref 0 0)])] [(Ob.cells [(V.str a0)])]) fun p0 =>
  Option.bind (call 18 [(V.agg [(V.ref 0 0)])] [(Ob.cells [(V.str (V.getS (List.headD (Ob.getC (List.headD p0.2 Ob.dead)) V.bot)))])]) fun p1 =>
  Option.bind (call 17 [(V.str (V.getS p1.1))] []) fun p2 =>
  if (sEq (V.getS p2.1) []) = true then
    some ((V.tup [(V.agg [(V.str []), (V.str []), (V.lst 42 false [])]), (V.bool false)]), [])
  else
    if a1 = true then
      Option.bind (call 19 [(V.agg [(V.ref 0 0)]), (V.int IntKind.u8 (47 : Int))] [(Ob.cells [(V.str (V.getS (List.headD (Ob.getC (List.headD p1.2 Ob.dead)) V.bot)))])]) fun p3 =>
      if (!(V.getB p3.1)) = true then
        some ((V.tup [(V.agg [(V.str []), (V.str []), (V.lst 42 false [])]), (V.bool false)]), [])
      else
        Option.bind (call 18 [(V.agg [(V.ref 0 0)])] [(Ob.cells [(V.str (V.getS (List.headD (Ob.getC (List.headD p3.2 Ob.dead)) V.bot)))])]) fun p4 =>
        Option.bind (call 17 [(V.str (V.getS p4.1))] []) fun p5 =>
        if (sEq (V.getS p5.1) []) = true then
          some ((V.tup [(V.agg [(V.str []), (V.str []), (V.lst 42 false [])]), (V.bool false)]), [])
        else
          Option.bind (call 20 [(V.agg [(V.ref 0 0)])] [(Ob.cells [(V.str (V.getS (List.headD (Ob.getC (List.headD p4.2 Ob.dead)) V.bot)))])]) fun p6 =>
          (ag0 ((V.getL p6.1)) ((V.getL p6.1)) (((List.length (V.getL p6.1) : Nat) : Int)) ((0 : Int)) ([]) ([]) ([]) ((V.getS (List.headD (Ob.getC (List.headD p6.2 Ob.dead)) V.bot))) ((V.getS p2.1)) ((V.getS p5.1)) ([]) ([]))
    else
      Option.bind (call 20 [(V.agg [(V.ref 0 0)])] [(Ob.cells [(V.str (V.getS (List.headD (Ob.getC (List.headD p1.2 Ob.dead)) V.bot)))])]) fun p3 =>
      (ag0 ((V.getL p3.1)) ((V.getL p3.1)) (((List.length (V.getL p3.1) : Nat) : Int)) ((0 : Int)) ([]) ([]) ([]) ((V.getS (List.headD (Ob.getC (List.headD p3.2 Ob.dead)) V.bot))) ((V.getS p2.1)) ([]) ([]) ([]))
def K8_0 (l0 : List V) (l1 : List V) (i2 : Int) (i3 : Int) (s4 : List UInt8) (s5 : List UInt8) (l6 : List V) (s7 : List UInt8) (s8 : List UInt8) (s9 : List UInt8) (l10 : List V) (m11 : List (Sc × Sc)) : St := ⟨[V.bot, V.bot, V.bot, V.bot, (V.ref 0 0), V.bot, V.bot, (V.ref 3 0), (V.lst 42 false l0), (V.mref 4), V.bot, V.bot, V.bot, V.bot, V.bot, V.bot, V.bot, V.bot, V.bot, V.bot, V.bot, V.bot, V.bot, V.bot, V.bot, V.bot, V.bot, V.bot, V.bot, V.bot, V.bot, V.bot, V.bot, V.bot, V.bot, V.bot, V.bot, V.bot, V.bot, V.bot, V.bot, V.bot, V.bot, V.bot, V.bot, V.bot, V.bot, (V.lst 42 false l1), (V.int IntKind.i64 i2), (V.int IntKind.i64 i3), V.bot, V.bot, V.bot, V.bot, V.bot, V.bot, V.bot, V.bot, V.bot, V.bot, V.bot, V.bot, V.bot, V.bot, V.bot, V.bot, V.bot, V.bot, V.bot, V.bot, V.bot, V.bot, V.bot, V.bot, V.bot, V.bot, V.bot, V.bot, V.bot, V.bot, V.bot, V.bot, V.bot, V.bot, V.bot, V.bot], [(Ob.cells [(V.str s4), (V.str s5), (V.lst 42 true l6)]), (Ob.cells [(V.str s7)]), (Ob.cells [(V.ref 1 0)]), (Ob.cells [(V.str s8), (V.str s9), (V.lst 42 true l10)]), (Ob.mp SK.str SK.bool m11)]⟩
theorem S8_0 (call : FuncId → Fun) (icall : ICall (V × List Ob)) (again : List It → St → Option (V × List Ob)) (a0 : List UInt8) (a1 : Bool) (l0 : List V) (l1 : List V) (i2 : Int) (i3 : Int) (s4 : List UInt8) (s5 : List UInt8) (l6 : List V) (s7 : List UInt8) (s8 : List UInt8) (s9 : List UInt8) (l10 : List V) (m11 : List (Sc × Sc)) :
    runM cfg call icall (slotsOf Tryd.f8.results.toList) (List.length (([] : List Ob) : List Ob)) again (finV cfg Tryd.f8 (finish cfg Tryd.f8 8 (List.map OSh.of (([] : List Ob) : List Ob)))) depth (tdOf Tryd.f8 0) (K8_0 l0 l1 i2 i3 s4 s5 l6 s7 s8 s9 l10 m11) = T8_0 call (fun l0 l1 i2 i3 s4 s5 l6 s7 s8 s9 l10 m11 => again (tdOf Tryd.f8 0) (K8_0 l0 l1 i2 i3 s4 s5 l6 s7 s8 s9 l10 m11)) l0 l1 i2 i3 s4 s5 l6 s7 s8 s9 l10 m11 := by kernel_rfl
theorem E8 (call : FuncId → Fun) (icall : ICall (V × List Ob)) (again : List It → St → Option (V × List Ob)) (a0 : List UInt8) (a1 : Bool) :
    (envK [V.str a0, V.bool a1] Tryd.f8.ntmps fun env => runM cfg call icall (slotsOf Tryd.f8.results.toList) (List.length (([] : List Ob) : List Ob)) again (finV cfg Tryd.f8 (finish cfg Tryd.f8 8 (List.map OSh.of (([] : List Ob) : List Ob)))) depth [.code (codeOf Tryd.f8)] ⟨env, ([] : List Ob)⟩) = T8 call (fun l0 l1 i2 i3 s4 s5 l6 s7 s8 s9 l10 m11 => again (tdOf Tryd.f8 0) (K8_0 l0 l1 i2 i3 s4 s5 l6 s7 s8 s9 l10 m11)) a0 a1 := by kernel_rfl
def L8 (call : FuncId → Fun) : Nat → (List V → List V → Int → Int → List UInt8 → List UInt8 → List V → List UInt8 → List UInt8 → List UInt8 → List V → List (Sc × Sc) → Option (V × List Ob))
  | 0 => fun _ _ _ _ _ _ _ _ _ _ _ _ => none
  | n + 1 => T8_0 call (L8 call n)
theorem R8 (call : FuncId → Fun) (icall : ICall (V × List Ob)) (a0 : List UInt8) (a1 : Bool) : ∀ n, (∀ (l0 : List V) (l1 : List V) (i2 : Int) (i3 : Int) (s4 : List UInt8) (s5 : List UInt8) (l6 : List V) (s7 : List UInt8) (s8 : List UInt8) (s9 : List UInt8) (l10 : List V) (m11 : List (Sc × Sc)), Go.Ev.runN cfg call icall (slotsOf Tryd.f8.results.toList) (List.length (([] : List Ob) : List Ob)) (finV cfg Tryd.f8 (finish cfg Tryd.f8 8 (List.map OSh.of (([] : List Ob) : List Ob)))) n (tdOf Tryd.f8 0) (K8_0 l0 l1 i2 i3 s4 s5 l6 s7 s8 s9 l10 m11) = (L8 call n) l0 l1 i2 i3 s4 s5 l6 s7 s8 s9 l10 m11)
  | 0 => fun l0 l1 i2 i3 s4 s5 l6 s7 s8 s9 l10 m11 => rfl
  | n + 1 => by
    have ih := R8 call icall a0 a1 n
    exact fun l0 l1 i2 i3 s4 s5 l6 s7 s8 s9 l10 m11 => (S8_0 call icall (Go.Ev.runN cfg call icall (slotsOf Tryd.f8.results.toList) (List.length (([] : List Ob) : List Ob)) (finV cfg Tryd.f8 (finish cfg Tryd.f8 8 (List.map OSh.of (([] : List Ob) : List Ob)))) n) a0 a1 l0 l1 i2 i3 s4 s5 l6 s7 s8 s9 l10 m11).trans (by
      rw [show (fun l0 l1 i2 i3 s4 s5 l6 s7 s8 s9 l10 m11 => Go.Ev.runN cfg call icall (slotsOf Tryd.f8.results.toList) (List.length (([] : List Ob) : List Ob)) (finV cfg Tryd.f8 (finish cfg Tryd.f8 8 (List.map OSh.of (([] : List Ob) : List Ob)))) n (tdOf Tryd.f8 0) (K8_0 l0 l1 i2 i3 s4 s5 l6 s7 s8 s9 l10 m11)) = (L8 call n) from (funext fun l0 => funext fun l1 => funext fun i2 => funext fun i3 => funext fun s4 => funext fun s5 => funext fun l6 => funext fun s7 => funext fun s8 => funext fun s9 => funext fun l10 => funext fun m11 => ih l0 l1 i2 i3 s4 s5 l6 s7 s8 s9 l10 m11)]; rfl)
theorem C8 (k : Nat) (a0 : List UInt8) (a1 : Bool) : callN cfg (k + 1) 8 [V.str a0, V.bool a1] ([] : List Ob) = T8 (callN cfg k) (L8 (callN cfg k) k) a0 a1 := by
  have ih := R8 (callN cfg k) (icallN cfg (callN cfg k) 20) a0 a1 k
  refine (show callN cfg (k + 1) 8 [V.str a0, V.bool a1] ([] : List Ob) = (envK [V.str a0, V.bool a1] Tryd.f8.ntmps fun env => runM cfg (callN cfg k) (icallN cfg (callN cfg k) 20) (slotsOf Tryd.f8.results.toList) (List.length (([] : List Ob) : List Ob)) (Go.Ev.runN cfg (callN cfg k) (icallN cfg (callN cfg k) 20) (slotsOf Tryd.f8.results.toList) (List.length (([] : List Ob) : List Ob)) (finV cfg Tryd.f8 (finish cfg Tryd.f8 8 (List.map OSh.of (([] : List Ob) : List Ob)))) k) (finV cfg Tryd.f8 (finish cfg Tryd.f8 8 (List.map OSh.of (([] : List Ob) : List Ob)))) depth [.code (codeOf Tryd.f8)] ⟨env, ([] : List Ob)⟩) by kernel_rfl).trans ((E8 _ _ _ a0 a1).trans ?_)
  rw [show (fun l0 l1 i2 i3 s4 s5 l6 s7 s8 s9 l10 m11 => Go.Ev.runN cfg (callN cfg k) (icallN cfg (callN cfg k) 20) (slotsOf Tryd.f8.results.toList) (List.length (([] : List Ob) : List Ob)) (finV cfg Tryd.f8 (finish cfg Tryd.f8 8 (List.map OSh.of (([] : List Ob) : List Ob)))) k (tdOf Tryd.f8 0) (K8_0 l0 l1 i2 i3 s4 s5 l6 s7 s8 s9 l10 m11)) = (L8 (callN cfg k) k) from (funext fun l0 => funext fun l1 => funext fun i2 => funext fun i3 => funext fun s4 => funext fun s5 => funext fun l6 => funext fun s7 => funext fun s8 => funext fun s9 => funext fun l10 => funext fun m11 => ih l0 l1 i2 i3 s4 s5 l6 s7 s8 s9 l10 m11)]
theorem M8 (a0 : List UInt8) (a1 : Bool) {r : V × List Ob} (h : Evt (fun k n => T8 (callN cfg k) (L8 (callN cfg k) n) a0 a1) r) : Ret 8 [V.str a0, V.bool a1] ([] : List Ob) r := ret_mk (g := fun k n => T8 (callN cfg k) (L8 (callN cfg k) n) a0 a1) (fun k => C8 k a0 a1) h
theorem N8_0 (l0 : List V) (l1 : List V) (i2 : Int) (i3 : Int) (s4 : List UInt8) (s5 : List UInt8) (l6 : List V) (s7 : List UInt8) (s8 : List UInt8) (s9 : List UInt8) (l10 : List V) (m11 : List (Sc × Sc)) {r : V × List Ob} (h : Evt (fun k n => T8_0 (callN cfg k) (L8 (callN cfg k) n) l0 l1 i2 i3 s4 s5 l6 s7 s8 s9 l10 m11) r) : Evt (fun k n => (L8 (callN cfg k) n) l0 l1 i2 i3 s4 s5 l6 s7 s8 s9 l10 m11) r := evt_step (g' := fun k n => T8_0 (callN cfg k) (L8 (callN cfg k) n) l0 l1 i2 i3 s4 s5 l6 s7 s8 s9 l10 m11) (fun k n => rfl) h

def T10_0 (call : FuncId → Fun) (ag0 : List UInt8 → List V → Int → Int → Option (V × List Ob)) (s0 : List UInt8) (l1 : List V) (i2 : Int) (i3 : Int) : Option (V × List Ob) :=
  if (decide (i3 < i2)) = true then
    chk (decide (0 ≤ i3)) (chk (decide (i3 < ((List.length l1 : Nat) : Int))) (Option.bind (call 29 [(V.str (V.getS (List.headD (V.cells (List.getD l1 (Int.toNat i3) V.bot)) V.bot))), (V.str s0)] []) fun p0 =>
    if (V.getB p0.1) = true then
      some ((V.tup [(V.str (V.getS (List.headD (List.tail (V.cells (List.getD l1 (Int.toNat i3) V.bot))) V.bot))), (V.bool true)]), [])
    else
      (ag0 (s0) (l1) (i2) ((IntKind.wrap IntKind.i64 (i3 + (1 : Int)))))))
  else
    some ((V.tup [(V.str []), (V.bool false)]), [])
def T10 (call : FuncId → Fun) (ag0 : List UInt8 → List V → Int → Int → Option (V × List Ob)) (a0 : List UInt8) (a1 : List UInt8) (a2 : List V) (a3 : List UInt8) : Option (V × List Ob) :=
  (ag0 (a3) (a2) (((List.length a2 : Nat) : Int)) ((0 : Int)))
def K10_0 (s0 : List UInt8) (l1 : List V) (i2 : Int) (i3 : Int) : St := ⟨[V.bot, (V.str s0), V.bot, V.bot, V.bot, V.bot, V.bot, V.bot, V.bot, (V.lst 42 false l1), (V.int IntKind.i64 i2), (V.int IntKind.i64 i3), V.bot, V.bot, V.bot, V.bot, V.bot, V.bot, V.bot, V.bot, V.bot, V.bot], []⟩
theorem S10_0 (call : FuncId → Fun) (icall : ICall (V × List Ob)) (again : List It → St → Option (V × List Ob)) (a0 : List UInt8) (a1 : List UInt8) (a2 : List V) (a3 : List UInt8) (s0 : List UInt8) (l1 : List V) (i2 : Int) (i3 : Int) :
    runM cfg call icall (slotsOf Tryd.f10.results.toList) (List.length (([] : List Ob) : List Ob)) again (finV cfg Tryd.f10 (finish cfg Tryd.f10 10 (List.map OSh.of (([] : List Ob) : List Ob)))) depth (tdOf Tryd.f10 0) (K10_0 s0 l1 i2 i3) = T10_0 call (fun s0 l1 i2 i3 => again (tdOf Tryd.f10 0) (K10_0 s0 l1 i2 i3)) s0 l1 i2 i3 := by kernel_rfl
theorem E10 (call : FuncId → Fun) (icall : ICall (V × List Ob)) (again : List It → St → Option (V × List Ob)) (a0 : List UInt8) (a1 : List UInt8) (a2 : List V) (a3 : List UInt8) :
    (envK [V.agg [V.str a0, V.str a1, V.lst 42 false a2], V.str a3] Tryd.f10.ntmps fun env => runM cfg call icall (slotsOf Tryd.f10.results.toList) (List.length (([] : List Ob) : List Ob)) again (finV cfg Tryd.f10 (finish cfg Tryd.f10 10 (List.map OSh.of (([] : List Ob) : List Ob)))) depth [.code (codeOf Tryd.f10)] ⟨env, ([] : List Ob)⟩) = T10 call (fun s0 l1 i2 i3 => again (tdOf Tryd.f10 0) (K10_0 s0 l1 i2 i3)) a0 a1 a2 a3 := by kernel_rfl
def L10 (call : FuncId → Fun) : Nat → (List UInt8 → List V → Int → Int → Option (V × List Ob))
  | 0 => fun _ _ _ _ => none
  | n + 1 => T10_0 call (L10 call n)
theorem R10 (call : FuncId → Fun) (icall : ICall (V × List Ob)) (a0 : List UInt8) (a1 : List UInt8) (a2 : List V) (a3 : List UInt8) : ∀ n, (∀ (s0 : List UInt8) (l1 : List V) (i2 : Int) (i3 : Int), Go.Ev.runN cfg call icall (slotsOf Tryd.f10.results.toList) (List.length (([] : List Ob) : List Ob)) (finV cfg Tryd.f10 (finish cfg Tryd.f10 10 (List.map OSh.of (([] : List Ob) : List Ob)))) n (tdOf Tryd.f10 0) (K10_0 s0 l1 i2 i3) = (L10 call n) s0 l1 i2 i3)
  | 0 => fun s0 l1 i2 i3 => rfl
  | n + 1 => by
    have ih := R10 call icall a0 a1 a2 a3 n
    exact fun s0 l1 i2 i3 => (S10_0 call icall (Go.Ev.runN cfg call icall (slotsOf Tryd.f10.results.toList) (List.length (([] : List Ob) : List Ob)) (finV cfg Tryd.f10 (finish cfg Tryd.f10 10 (List.map OSh.of (([] : List Ob) : List Ob)))) n) a0 a1 a2 a3 s0 l1 i2 i3).trans (by
      rw [show (fun s0 l1 i2 i3 => Go.Ev.runN cfg call icall (slotsOf Tryd.f10.results.toList) (List.length (([] : List Ob) : List Ob)) (finV cfg Tryd.f10 (finish cfg Tryd.f10 10 (List.map OSh.of (([] : List Ob) : List Ob)))) n (tdOf Tryd.f10 0) (K10_0 s0 l1 i2 i3)) = (L10 call n) from (funext fun s0 => funext fun l1 => funext fun i2 => funext fun i3 => ih s0 l1 i2 i3)]; rfl)
theorem C10 (k : Nat) (a0 : List UInt8) (a1 : List UInt8) (a2 : List V) (a3 : List UInt8) : callN cfg (k + 1) 10 [V.agg [V.str a0, V.str a1, V.lst 42 false a2], V.str a3] ([] : List Ob) = T10 (callN cfg k) (L10 (callN cfg k) k) a0 a1 a2 a3 := by
  have ih := R10 (callN cfg k) (icallN cfg (callN cfg k) 20) a0 a1 a2 a3 k
  refine (show callN cfg (k + 1) 10 [V.agg [V.str a0, V.str a1, V.lst 42 false a2], V.str a3] ([] : List Ob) = (envK [V.agg [V.str a0, V.str a1, V.lst 42 false a2], V.str a3] Tryd.f10.ntmps fun env => runM cfg (callN cfg k) (icallN cfg (callN cfg k) 20) (slotsOf Tryd.f10.results.toList) (List.length (([] : List Ob) : List Ob)) (Go.Ev.runN cfg (callN cfg k) (icallN cfg (callN cfg k) 20) (slotsOf Tryd.f10.results.toList) (List.length (([] : List Ob) : List Ob)) (finV cfg Tryd.f10 (finish cfg Tryd.f10 10 (List.map OSh.of (([] : List Ob) : List Ob)))) k) (finV cfg Tryd.f10 (finish cfg Tryd.f10 10 (List.map OSh.of (([] : List Ob) : List Ob)))) depth [.code (codeOf Tryd.f10)] ⟨env, ([] : List Ob)⟩) by kernel_rfl).trans ((E10 _ _ _ a0 a1 a2 a3).trans ?_)
  rw [show (fun s0 l1 i2 i3 => Go.Ev.runN cfg (callN cfg k) (icallN cfg (callN cfg k) 20) (slotsOf Tryd.f10.results.toList) (List.length (([] : List Ob) : List Ob)) (finV cfg Tryd.f10 (finish cfg Tryd.f10 10 (List.map OSh.of (([] : List Ob) : List Ob)))) k (tdOf Tryd.f10 0) (K10_0 s0 l1 i2 i3)) = (L10 (callN cfg k) k) from (funext fun s0 => funext fun l1 => funext fun i2 => funext fun i3 => ih s0 l1 i2 i3)]
theorem M10 (a0 : List UInt8) (a1 : List UInt8) (a2 : List V) (a3 : List UInt8) {r : V × List Ob} (h : Evt (fun k n => T10 (callN cfg k) (L10 (callN cfg k) n) a0 a1 a2 a3) r) : Ret 10 [V.agg [V.str a0, V.str a1, V.lst 42 false a2], V.str a3] ([] : List Ob) r := ret_mk (g := fun k n => T10 (callN cfg k) (L10 (callN cfg k) n) a0 a1 a2 a3) (fun k => C10 k a0 a1 a2 a3) h
theorem N10_0 (s0 : List UInt8) (l1 : List V) (i2 : Int) (i3 : Int) {r : V × List Ob} (h : Evt (fun k n => T10_0 (callN cfg k) (L10 (callN cfg k) n) s0 l1 i2 i3) r) : Evt (fun k n => (L10 (callN cfg k) n) s0 l1 i2 i3) r := evt_step (g' := fun k n => T10_0 (callN cfg k) (L10 (callN cfg k) n) s0 l1 i2 i3) (fun k n => rfl) h

def T14_0 (call : FuncId → Fun) (ag0 : List UInt8 → List V → Int → Int → Option (V × List Ob)) (s0 : List UInt8) (l1 : List V) (i2 : Int) (i3 : Int) : Option (V × List Ob) :=
  if (decide (i3 < i2)) = true then
    Option.bind (chk (decide (0 ≤ i3)) (chk (decide (i3 < ((List.length s0 : Nat) : Int))) (if (((UInt8.toNat (List.getD s0 (Int.toNat i3) 0) : Nat) : Int) == (34 : Int)) = false then
        chk (decide (0 ≤ i3)) (chk (decide (i3 < ((List.length s0 : Nat) : Int))) (some (((UInt8.toNat (List.getD s0 (Int.toNat i3) 0) : Nat) : Int) == (92 : Int))))
      else
        some true))) fun b0 =>
    if b0 = true then
      chk (appOk l1 [(V.int IntKind.u8 (92 : Int))] 2) (chk (decide (0 ≤ i3)) (chk (decide (i3 < ((List.length s0 : Nat) : Int))) (chk (appOk (l1 ++ [(V.int IntKind.u8 (92 : Int))]) [(V.int IntKind.u8 ((UInt8.toNat (List.getD s0 (Int.toNat i3) 0) : Nat) : Int))] 2) ((ag0 (s0) (((l1 ++ [(V.int IntKind.u8 (92 : Int))]) ++ [(V.int IntKind.u8 ((UInt8.toNat (List.getD s0 (Int.toNat i3) 0) : Nat) : Int))])) (i2) ((IntKind.wrap IntKind.i64 (i3 + (1 : Int)))))))))
    else
      chk (decide (0 ≤ i3)) (chk (decide (i3 < ((List.length s0 : Nat) : Int))) (chk (appOk l1 [(V.int IntKind.u8 ((UInt8.toNat (List.getD s0 (Int.toNat i3) 0) : Nat) : Int))] 2) ((ag0 (s0) ((l1 ++ [(V.int IntKind.u8 ((UInt8.toNat (List.getD s0 (Int.toNat i3) 0) : Nat) : Int))])) (i2) ((IntKind.wrap IntKind.i64 (i3 + (1 : Int))))))))
  else
    chk (appOk l1 [(V.int IntKind.u8 (34 : Int))] 2) (some ((V.str (bytesOf (l1 ++ [(V.int IntKind.u8 (34 : Int))]))), []))
def T14 (call : FuncId → Fun) (ag0 : List UInt8 → List V → Int → Int → Option (V × List Ob)) (a0 : List UInt8) : Option (V × List Ob) :=
  (ag0 (a0) ([(V.int IntKind.u8 (34 : Int))]) (((List.length a0 : Nat) : Int)) ((0 : Int)))
def K14_0 (s0 : List UInt8) (l1 : List V) (i2 : Int) (i3 : Int) : St := ⟨[(V.str s0), V.bot, V.bot, (V.lst 5 true l1), V.bot, V.bot, V.bot, (V.int IntKind.i64 i2), (V.int IntKind.i64 i3), V.bot, V.bot, V.bot, V.bot, V.bot, V.bot, V.bot, V.bot, V.bot, V.bot, V.bot, V.bot, V.bot, V.bot, V.bot, V.bot, V.bot, V.bot, V.bot, V.bot, V.bot, V.bot, V.bot, V.bot, V.bot, V.bot], []⟩
theorem S14_0 (call : FuncId → Fun) (icall : ICall (V × List Ob)) (again : List It → St → Option (V × List Ob)) (a0 : List UInt8) (s0 : List UInt8) (l1 : List V) (i2 : Int) (i3 : Int) :
    runM cfg call icall (slotsOf Tryd.f14.results.toList) (List.length (([] : List Ob) : List Ob)) again (finV cfg Tryd.f14 (finish cfg Tryd.f14 14 (List.map OSh.of (([] : List Ob) : List Ob)))) depth (tdOf Tryd.f14 0) (K14_0 s0 l1 i2 i3) = T14_0 call (fun s0 l1 i2 i3 => again (tdOf Tryd.f14 0) (K14_0 s0 l1 i2 i3)) s0 l1 i2 i3 := by kernel_rfl
theorem E14 (call : FuncId → Fun) (icall : ICall (V × List Ob)) (again : List It → St → Option (V × List Ob)) (a0 : List UInt8) :
    (envK [V.str a0] Tryd.f14.ntmps fun env => runM cfg call icall (slotsOf Tryd.f14.results.toList) (List.length (([] : List Ob) : List Ob)) again (finV cfg Tryd.f14 (finish cfg Tryd.f14 14 (List.map OSh.of (([] : List Ob) : List Ob)))) depth [.code (codeOf Tryd.f14)] ⟨env, ([] : List Ob)⟩) = T14 call (fun s0 l1 i2 i3 => again (tdOf Tryd.f14 0) (K14_0 s0 l1 i2 i3)) a0 := by kernel_rfl
def L14 (call : FuncId → Fun) : Nat → (List UInt8 → List V → Int → Int → Option (V × List Ob))
  | 0 => fun _ _ _ _ => none
  | n + 1 => T14_0 call (L14 call n)
theorem R14 (call : FuncId → Fun) (icall : ICall (V × List Ob)) (a0 : List UInt8) : ∀ n, (∀ (s0 : List UInt8) (l1 : List V) (i2 : Int) (i3 : Int), Go.Ev.runN cfg call icall (slotsOf Tryd.f14.results.toList) (List.length (([] : List Ob) : List Ob)) (finV cfg Tryd.f14 (finish cfg Tryd.f14 14 (List.map OSh.of (([] : List Ob) : List Ob)))) n (tdOf Tryd.f14 0) (K14_0 s0 l1 i2 i3) = (L14 call n) s0 l1 i2 i3)
  | 0 => fun s0 l1 i2 i3 => rfl
  | n + 1 => by
    have ih := R14 call icall a0 n
    exact fun s0 l1 i2 i3 => (S14_0 call icall (Go.Ev.runN cfg call icall (slotsOf Tryd.f14.results.toList) (List.length (([] : List Ob) : List Ob)) (finV cfg Tryd.f14 (finish cfg Tryd.f14 14 (List.map OSh.of (([] : List Ob) : List Ob)))) n) a0 s0 l1 i2 i3).trans (by
      rw [show (fun s0 l1 i2 i3 => Go.Ev.runN cfg call icall (slotsOf Tryd.f14.results.toList) (List.length (([] : List Ob) : List Ob)) (finV cfg Tryd.f14 (finish cfg Tryd.f14 14 (List.map OSh.of (([] : List Ob) : List Ob)))) n (tdOf Tryd.f14 0) (K14_0 s0 l1 i2 i3)) = (L14 call n) from (funext fun s0 => funext fun l1 => funext fun i2 => funext fun i3 => ih s0 l1 i2 i3)]; rfl)
theorem C14 (k : Nat) (a0 : List UInt8) : callN cfg (k + 1) 14 [V.str a0] ([] : List Ob) = T14 (callN cfg k) (L14 (callN cfg k) k) a0 := by
  have ih := R14 (callN cfg k) (icallN cfg (callN cfg k) 20) a0 k
  refine (show callN cfg (k + 1) 14 [V.str a0] ([] : List Ob) = (envK [V.str a0] Tryd.f14.ntmps fun env => runM cfg (callN cfg k) (icallN cfg (callN cfg k) 20) (slotsOf Tryd.f14.results.toList) (List.length (([] : List Ob) : List Ob)) (Go.Ev.runN cfg (callN cfg k) (icallN cfg (callN cfg k) 20) (slotsOf Tryd.f14.results.toList) (List.length (([] : List Ob) : List Ob)) (finV cfg Tryd.f14 (finish cfg Tryd.f14 14 (List.map OSh.of (([] : List Ob) : List Ob)))) k) (finV cfg Tryd.f14 (finish cfg Tryd.f14 14 (List.map OSh.of (([] : List Ob) : List Ob)))) depth [.code (codeOf Tryd.f14)] ⟨env, ([] : List Ob)⟩) by kernel_rfl).trans ((E14 _ _ _ a0).trans ?_)
  rw [show (fun s0 l1 i2 i3 => Go.Ev.runN cfg (callN cfg k) (icallN cfg (callN cfg k) 20) (slotsOf Tryd.f14.results.toList) (List.length (([] : List Ob) : List Ob)) (finV cfg Tryd.f14 (finish cfg Tryd.f14 14 (List.map OSh.of (([] : List Ob) : List Ob)))) k (tdOf Tryd.f14 0) (K14_0 s0 l1 i2 i3)) = (L14 (callN cfg k) k) from (funext fun s0 => funext fun l1 => funext fun i2 => funext fun i3 => ih s0 l1 i2 i3)]
theorem M14 (a0 : List UInt8) {r : V × List Ob} (h : Evt (fun k n => T14 (callN cfg k) (L14 (callN cfg k) n) a0) r) : Ret 14 [V.str a0] ([] : List Ob) r := ret_mk (g := fun k n => T14 (callN cfg k) (L14 (callN cfg k) n) a0) (fun k => C14 k a0) h
theorem N14_0 (s0 : List UInt8) (l1 : List V) (i2 : Int) (i3 : Int) {r : V × List Ob} (h : Evt (fun k n => T14_0 (callN cfg k) (L14 (callN cfg k) n) s0 l1 i2 i3) r) : Evt (fun k n => (L14 (callN cfg k) n) s0 l1 i2 i3) r := evt_step (g' := fun k n => T14_0 (callN cfg k) (L14 (callN cfg k) n) s0 l1 i2 i3) (fun k n => rfl) h

def T16_0 (call : FuncId → Fun) (ag0 : List UInt8 → Option (V × List Ob)) (s0 : List UInt8) : Option (V × List Ob) :=
  if (decide (((List.length s0 : Nat) : Int) > (0 : Int))) = true then
    Option.bind (call 30 [(V.ref 0 0), (V.int IntKind.i64 (0 : Int))] [(Ob.cells [(V.str s0)])]) fun p0 =>
    Option.bind (call 31 [(V.int IntKind.u8 (V.getI p0.1))] []) fun p1 =>
    if (V.getB p1.1) = true then
      chk (decide (0 ≤ (1 : Int))) (chk (decide ((1 : Int) ≤ ((List.length s0 : Nat) : Int))) ((ag0 ((List.drop (Int.toNat (1 : Int)) s0)))))
    else
      if ((V.getI p0.1) == (40 : Int)) = true then
        Option.bind (call 32 [(V.agg [(V.ref 0 0)])] [(Ob.cells [(V.str s0)])]) fun p2 =>
        chk (decide (0 ≤ (V.getI p2.1))) (chk (decide ((V.getI p2.1) ≤ ((List.length s0 : Nat) : Int))) ((ag0 ((List.drop (Int.toNat (V.getI p2.1)) s0)))))
      else
        some ((V.tup []), [(Ob.cells [(V.str s0)])])
  else
    some ((V.tup []), [(Ob.cells [(V.str s0)])])
def T16 (call : FuncId → Fun) (ag0 : List UInt8 → Option (V × List Ob)) (a0 : List UInt8) : Option (V × List Ob) :=
  (ag0 (a0))
def K16_0 (s0 : List UInt8) : St := ⟨[V.bot, (V.ref 1 0), V.bot, V.bot, V.bot, V.bot, V.bot, V.bot, V.bot, V.bot, V.bot, V.bot, V.bot, V.bot, V.bot, V.bot, V.bot, V.bot, V.bot, V.bot, V.bot, V.bot, V.bot, V.bot, V.bot, V.bot, V.bot, V.bot, V.bot, V.bot, V.bot, V.bot, V.bot, V.bot, V.bot, V.bot, V.bot, V.bot, V.bot, V.bot, V.bot], [(Ob.cells [(V.str s0)]), (Ob.cells [(V.ref 0 0)])]⟩
theorem S16_0 (call : FuncId → Fun) (icall : ICall (V × List Ob)) (again : List It → St → Option (V × List Ob)) (a0 : List UInt8) (s0 : List UInt8) :
    runM cfg call icall (slotsOf Tryd.f16.results.toList) (List.length ([Ob.cells [V.str a0]] : List Ob)) again (finV cfg Tryd.f16 (finish cfg Tryd.f16 16 (List.map OSh.of ([Ob.cells [V.str a0]] : List Ob)))) depth (tdOf Tryd.f16 0) (K16_0 s0) = T16_0 call (fun s0 => again (tdOf Tryd.f16 0) (K16_0 s0)) s0 := by kernel_rfl
theorem E16 (call : FuncId → Fun) (icall : ICall (V × List Ob)) (again : List It → St → Option (V × List Ob)) (a0 : List UInt8) :
    (envK [V.agg [V.ref 0 0]] Tryd.f16.ntmps fun env => runM cfg call icall (slotsOf Tryd.f16.results.toList) (List.length ([Ob.cells [V.str a0]] : List Ob)) again (finV cfg Tryd.f16 (finish cfg Tryd.f16 16 (List.map OSh.of ([Ob.cells [V.str a0]] : List Ob)))) depth [.code (codeOf Tryd.f16)] ⟨env, [Ob.cells [V.str a0]]⟩) = T16 call (fun s0 => again (tdOf Tryd.f16 0) (K16_0 s0)) a0 := by kernel_rfl
def L16 (call : FuncId → Fun) : Nat → (List UInt8 → Option (V × List Ob))
  | 0 => fun _ => none
  | n + 1 => T16_0 call (L16 call n)
theorem R16 (call : FuncId → Fun) (icall : ICall (V × List Ob)) (a0 : List UInt8) : ∀ n, (∀ (s0 : List UInt8), Go.Ev.runN cfg call icall (slotsOf Tryd.f16.results.toList) (List.length ([Ob.cells [V.str a0]] : List Ob)) (finV cfg Tryd.f16 (finish cfg Tryd.f16 16 (List.map OSh.of ([Ob.cells [V.str a0]] : List Ob)))) n (tdOf Tryd.f16 0) (K16_0 s0) = (L16 call n) s0)
  | 0 => fun s0 => rfl
  | n + 1 => by
    have ih := R16 call icall a0 n
    exact fun s0 => (S16_0 call icall (Go.Ev.runN cfg call icall (slotsOf Tryd.f16.results.toList) (List.length ([Ob.cells [V.str a0]] : List Ob)) (finV cfg Tryd.f16 (finish cfg Tryd.f16 16 (List.map OSh.of ([Ob.cells [V.str a0]] : List Ob)))) n) a0 s0).trans (by
      rw [show (fun s0 => Go.Ev.runN cfg call icall (slotsOf Tryd.f16.results.toList) (List.length ([Ob.cells [V.str a0]] : List Ob)) (finV cfg Tryd.f16 (finish cfg Tryd.f16 16 (List.map OSh.of ([Ob.cells [V.str a0]] : List Ob)))) n (tdOf Tryd.f16 0) (K16_0 s0)) = (L16 call n) from (funext fun s0 => ih s0)]; rfl)
theorem C16 (k : Nat) (a0 : List UInt8) : callN cfg (k + 1) 16 [V.agg [V.ref 0 0]] [Ob.cells [V.str a0]] = T16 (callN cfg k) (L16 (callN cfg k) k) a0 := by
  have ih := R16 (callN cfg k) (icallN cfg (callN cfg k) 20) a0 k
  refine (show callN cfg (k + 1) 16 [V.agg [V.ref 0 0]] [Ob.cells [V.str a0]] = (envK [V.agg [V.ref 0 0]] Tryd.f16.ntmps fun env => runM cfg (callN cfg k) (icallN cfg (callN cfg k) 20) (slotsOf Tryd.f16.results.toList) (List.length ([Ob.cells [V.str a0]] : List Ob)) (Go.Ev.runN cfg (callN cfg k) (icallN cfg (callN cfg k) 20) (slotsOf Tryd.f16.results.toList) (List.length ([Ob.cells [V.str a0]] : List Ob)) (finV cfg Tryd.f16 (finish cfg Tryd.f16 16 (List.map OSh.of ([Ob.cells [V.str a0]] : List Ob)))) k) (finV cfg Tryd.f16 (finish cfg Tryd.f16 16 (List.map OSh.of ([Ob.cells [V.str a0]] : List Ob)))) depth [.code (codeOf Tryd.f16)] ⟨env, [Ob.cells [V.str a0]]⟩) by kernel_rfl).trans ((E16 _ _ _ a0).trans ?_)
  rw [show (fun s0 => Go.Ev.runN cfg (callN cfg k) (icallN cfg (callN cfg k) 20) (slotsOf Tryd.f16.results.toList) (List.length ([Ob.cells [V.str a0]] : List Ob)) (finV cfg Tryd.f16 (finish cfg Tryd.f16 16 (List.map OSh.of ([Ob.cells [V.str a0]] : List Ob)))) k (tdOf Tryd.f16 0) (K16_0 s0)) = (L16 (callN cfg k) k) from (funext fun s0 => ih s0)]
theorem M16 (a0 : List UInt8) {r : V × List Ob} (h : Evt (fun k n => T16 (callN cfg k) (L16 (callN cfg k) n) a0) r) : Ret 16 [V.agg [V.ref 0 0]] [Ob.cells [V.str a0]] r := ret_mk (g := fun k n => T16 (callN cfg k) (L16 (callN cfg k) n) a0) (fun k => C16 k a0) h
theorem N16_0 (s0 : List UInt8) {r : V × List Ob} (h : Evt (fun k n => T16_0 (callN cfg k) (L16 (callN cfg k) n) s0) r) : Evt (fun k n => (L16 (callN cfg k) n) s0) r := evt_step (g' := fun k n => T16_0 (callN cfg k) (L16 (callN cfg k) n) s0) (fun k n => rfl) h

def T18_0 (call : FuncId → Fun) (ag0 : Int → List UInt8 → Option (V × List Ob)) (i0 : Int) (s1 : List UInt8) : Option (V × List Ob) :=
  if (decide (i0 < ((List.length s1 : Nat) : Int))) = true then
    chk (decide (0 ≤ i0)) (chk (decide (i0 < ((List.length s1 : Nat) : Int))) (Option.bind (call 34 [(V.int IntKind.u8 ((UInt8.toNat (List.getD s1 (Int.toNat i0) 0) : Nat) : Int))] []) fun p0 =>
    if (V.getB p0.1) = true then
      (ag0 ((IntKind.wrap IntKind.i64 (i0 + (1 : Int)))) (s1))
    else
      chk (decide (0 ≤ i0)) (chk (decide (i0 ≤ ((List.length s1 : Nat) : Int))) (chk (decide (0 ≤ (0 : Int))) (chk (decide ((0 : Int) ≤ i0)) (chk (decide (0 ≤ i0)) (chk (decide (i0 ≤ ((List.length s1 : Nat) : Int))) (some ((V.str (List.drop (Int.toNat (0 : Int)) (List.take (Int.toNat i0) s1))), [(Ob.cells [(V.str (List.drop (Int.toNat i0) s1))])])))))))))
  else
    chk (decide (0 ≤ i0)) (chk (decide (i0 ≤ ((List.length s1 : Nat) : Int))) (chk (decide (0 ≤ (0 : Int))) (chk (decide ((0 : Int) ≤ i0)) (chk (decide (0 ≤ i0)) (chk (decide (i0 ≤ ((List.length s1 : Nat) : Int))) (some ((V.str (List.drop (Int.toNat (0 : Int)) (List.take (Int.toNat i0) s1))), [(Ob.cells [(V.str (List.drop (Int.toNat i0) s1))])])))))))
def T18 (call : FuncId → Fun) (ag0 : Int → List UInt8 → Option (V × List Ob)) (a0 : List UInt8) : Option (V × List Ob) :=
  (ag0 ((0 : Int)) (a0))
def K18_0 (i0 : Int) (s1 : List UInt8) : St := ⟨[V.bot, (V.ref 1 0), V.bot, (V.int IntKind.i64 i0), V.bot, V.bot, V.bot, V.bot, V.bot, V.bot, V.bot, V.bot, V.bot, V.bot, V.bot, V.bot, V.bot, V.bot, V.bot, V.bot, V.bot, V.bot, V.bot, V.bot, V.bot, V.bot, V.bot, V.bot, V.bot, V.bot, V.bot, V.bot, V.bot, V.bot, V.bot, V.bot, V.bot, V.bot, V.bot, V.bot, V.bot, V.bot, V.bot, V.bot], [(Ob.cells [(V.str s1)]), (Ob.cells [(V.ref 0 0)])]⟩
theorem S18_0 (call : FuncId → Fun) (icall : ICall (V × List Ob)) (again : List It → St → Option (V × List Ob)) (a0 : List UInt8) (i0 : Int) (s1 : List UInt8) :
    runM cfg call icall (slotsOf Tryd.f18.results.toList) (List.length ([Ob.cells [V.str a0]] : List Ob)) again (finV cfg Tryd.f18 (finish cfg Tryd.f18 18 (List.map OSh.of ([Ob.cells [V.str a0]] : List Ob)))) depth (tdOf Tryd.f18 0) (K18_0 i0 s1) = T18_0 call (fun i0 s1 => again (tdOf Tryd.f18 0) (K18_0 i0 s1)) i0 s1 := by kernel_rfl
theorem E18 (call : FuncId → Fun) (icall : ICall (V × List Ob)) (again : List It → St → Option (V × List Ob)) (a0 : List UInt8) :
    (envK [V.agg [V.ref 0 0]] Tryd.f18.ntmps fun env => runM cfg call icall (slotsOf Tryd.f18.results.toList) (List.length ([Ob.cells [V.str a0]] : List Ob)) again (finV cfg Tryd.f18 (finish cfg Tryd.f18 18 (List.map OSh.of ([Ob.cells [V.str a0]] : List Ob)))) depth [.code (codeOf Tryd.f18)] ⟨env, [Ob.cells [V.str a0]]⟩) = T18 call (fun i0 s1 => again (tdOf Tryd.f18 0) (K18_0 i0 s1)) a0 := by kernel_rfl
def L18 (call : FuncId → Fun) : Nat → (Int → List UInt8 → Option (V × List Ob))
  | 0 => fun _ _ => none
  | n + 1 => T18_0 call (L18 call n)
theorem R18 (call : FuncId → Fun) (icall : ICall (V × List Ob)) (a0 : List UInt8) : ∀ n, (∀ (i0 : Int) (s1 : List UInt8), Go.Ev.runN cfg call icall (slotsOf Tryd.f18.results.toList) (List.length ([Ob.cells [V.str a0]] : List Ob)) (finV cfg Tryd.f18 (finish cfg Tryd.f18 18 (List.map OSh.of ([Ob.cells [V.str a0]] : List Ob)))) n (tdOf Tryd.f18 0) (K18_0 i0 s1) = (L18 call n) i0 s1)
  | 0 => fun i0 s1 => rfl
  | n + 1 => by
    have ih := R18 call icall a0 n
    exact fun i0 s1 => (S18_0 call icall (Go.Ev.runN cfg call icall (slotsOf Tryd.f18.results.toList) (List.length ([Ob.cells [V.str a0]] : List Ob)) (finV cfg Tryd.f18 (finish cfg Tryd.f18 18 (List.map OSh.of ([Ob.cells [V.str a0]] : List Ob)))) n) a0 i0 s1).trans (by
      rw [show (fun i0 s1 => Go.Ev.runN cfg call icall (slotsOf Tryd.f18.results.toList) (List.length ([Ob.cells [V.str a0]] : List Ob)) (finV cfg Tryd.f18 (finish cfg Tryd.f18 18 (List.map OSh.of ([Ob.cells [V.str a0]] : List Ob)))) n (tdOf Tryd.f18 0) (K18_0 i0 s1)) = (L18 call n) from (funext fun i0 => funext fun s1 => ih i0 s1)]; rfl)
theorem C18 (k : Nat) (a0 : List UInt8) : callN cfg (k + 1) 18 [V.agg [V.ref 0 0]] [Ob.cells [V.str a0]] = T18 (callN cfg k) (L18 (callN cfg k) k) a0 := by
  have ih := R18 (callN cfg k) (icallN cfg (callN cfg k) 20) a0 k
  refine (show callN cfg (k + 1) 18 [V.agg [V.ref 0 0]] [Ob.cells [V.str a0]] = (envK [V.agg [V.ref 0 0]] Tryd.f18.ntmps fun env => runM cfg (callN cfg k) (icallN cfg (callN cfg k) 20) (slotsOf Tryd.f18.results.toList) (List.length ([Ob.cells [V.str a0]] : List Ob)) (Go.Ev.runN cfg (callN cfg k) (icallN cfg (callN cfg k) 20) (slotsOf Tryd.f18.results.toList) (List.length ([Ob.cells [V.str a0]] : List Ob)) (finV cfg Tryd.f18 (finish cfg Tryd.f18 18 (List.map OSh.of ([Ob.cells [V.str a0]] : List Ob)))) k) (finV cfg Tryd.f18 (finish cfg Tryd.f18 18 (List.map OSh.of ([Ob.cells [V.str a0]] : List Ob)))) depth [.code (codeOf Tryd.f18)] ⟨env, [Ob.cells [V.str a0]]⟩) by kernel_rfl).trans ((E18 _ _ _ a0).trans ?_)
  rw [show (fun i0 s1 => Go.Ev.runN cfg (callN cfg k) (icallN cfg (callN cfg k) 20) (slotsOf Tryd.f18.results.toList) (List.length ([Ob.cells [V.str a0]] : List Ob)) (finV cfg Tryd.f18 (finish cfg Tryd.f18 18 (List.map OSh.of ([Ob.cells [V.str a0]] : List Ob)))) k (tdOf Tryd.f18 0) (K18_0 i0 s1)) = (L18 (callN cfg k) k) from (funext fun i0 => funext fun s1 => ih i0 s1)]
theorem M18 (a0 : List UInt8) {r : V × List Ob} (h : Evt (fun k n => T18 (callN cfg k) (L18 (callN cfg k) n) a0) r) : Ret 18 [V.agg [V.ref 0 0]] [Ob.cells [V.str a0]] r := ret_mk (g := fun k n => T18 (callN cfg k) (L18 (callN cfg k) n) a0) (fun k => C18 k a0) h
theorem N18_0 (i0 : Int) (s1 : List UInt8) {r : V × List Ob} (h : Evt (fun k n => T18_0 (callN cfg k) (L18 (callN cfg k) n) i0 s1) r) : Evt (fun k n => (L18 (callN cfg k) n) i0 s1) r := evt_step (g' := fun k n => T18_0 (callN cfg k) (L18 (callN cfg k) n) i0 s1) (fun k n => rfl) h

def T19 (call : FuncId → Fun)  (a0 : List UInt8) (a1 : Int) : Option (V × List Ob) :=
  Option.bind (call 16 [(V.agg [(V.ref 0 0)])] [(Ob.cells [(V.str a0)])]) fun p0 =>
  Option.bind (call 30 [(V.ref 0 0), (V.int IntKind.i64 (0 : Int))] [(Ob.cells [(V.str (V.getS (List.headD (Ob.getC (List.headD p0.2 Ob.dead)) V.bot)))])]) fun p1 =>
  if ((V.getI p1.1) != a1) = true then
    some ((V.bool false), [(Ob.cells [(V.str (V.getS (List.headD (Ob.getC (List.headD p0.2 Ob.dead)) V.bot)))])])
  else
    chk (decide (0 ≤ (1 : Int))) (chk (decide ((1 : Int) ≤ ((List.length (V.getS (List.headD (Ob.getC (List.headD p0.2 Ob.dead)) V.bot)) : Nat) : Int))) (Option.bind (call 16 [(V.agg [(V.ref 0 0)])] [(Ob.cells [(V.str (List.drop (Int.toNat (1 : Int)) (V.getS (List.headD (Ob.getC (List.headD p0.2 Ob.dead)) V.bot))))])]) fun p2 =>
    some ((V.bool true), [(Ob.cells [(V.str (V.getS (List.headD (Ob.getC (List.headD p2.2 Ob.dead)) V.bot)))])])))
theorem E19 (call : FuncId → Fun) (icall : ICall (V × List Ob)) (again : List It → St → Option (V × List Ob)) (a0 : List UInt8) (a1 : Int) :
    (envK [V.agg [V.ref 0 0], V.int IntKind.u8 a1] Tryd.f19.ntmps fun env => runM cfg call icall (slotsOf Tryd.f19.results.toList) (List.length ([Ob.cells [V.str a0]] : List Ob)) again (finV cfg Tryd.f19 (finish cfg Tryd.f19 19 (List.map OSh.of ([Ob.cells [V.str a0]] : List Ob)))) depth [.code (codeOf Tryd.f19)] ⟨env, [Ob.cells [V.str a0]]⟩) = T19 call  a0 a1 := by kernel_rfl
theorem C19 (k : Nat) (a0 : List UInt8) (a1 : Int) : callN cfg (k + 1) 19 [V.agg [V.ref 0 0], V.int IntKind.u8 a1] [Ob.cells [V.str a0]] = T19 (callN cfg k) a0 a1 :=
  (show callN cfg (k + 1) 19 [V.agg [V.ref 0 0], V.int IntKind.u8 a1] [Ob.cells [V.str a0]] = (envK [V.agg [V.ref 0 0], V.int IntKind.u8 a1] Tryd.f19.ntmps fun env => runM cfg (callN cfg k) (icallN cfg (callN cfg k) 20) (slotsOf Tryd.f19.results.toList) (List.length ([Ob.cells [V.str a0]] : List Ob)) (Go.Ev.runN cfg (callN cfg k) (icallN cfg (callN cfg k) 20) (slotsOf Tryd.f19.results.toList) (List.length ([Ob.cells [V.str a0]] : List Ob)) (finV cfg Tryd.f19 (finish cfg Tryd.f19 19 (List.map OSh.of ([Ob.cells [V.str a0]] : List Ob)))) k) (finV cfg Tryd.f19 (finish cfg Tryd.f19 19 (List.map OSh.of ([Ob.cells [V.str a0]] : List Ob)))) depth [.code (codeOf Tryd.f19)] ⟨env, [Ob.cells [V.str a0]]⟩) by kernel_rfl).trans (E19 _ _ _ a0 a1)
theorem M19 (a0 : List UInt8) (a1 : Int) {r : V × List Ob} (h : Evt (fun k n => T19 (callN cfg k)  a0 a1) r) : Ret 19 [V.agg [V.ref 0 0], V.int IntKind.u8 a1] [Ob.cells [V.str a0]] r := ret_mk (g := fun k n => T19 (callN cfg k)  a0 a1) (fun k => C19 k a0 a1) h

def T20_0 (call : FuncId → Fun) (ag0 : List V → List UInt8 → Option (V × List Ob)) (l0 : List V) (s1 : List UInt8) : Option (V × List Ob) :=
  Option.bind (call 19 [(V.agg [(V.ref 0 0)]), (V.int IntKind.u8 (59 : Int))] [(Ob.cells [(V.str s1)])]) fun p0 =>
  if (V.getB p0.1) = true then
    Option.bind (call 18 [(V.agg [(V.ref 0 0)])] [(Ob.cells [(V.str (V.getS (List.headD (Ob.getC (List.headD p0.2 Ob.dead)) V.bot)))])]) fun p1 =>
    Option.bind (call 17 [(V.str (V.getS p1.1))] []) fun p2 =>
    if (sEq (V.getS p2.1) []) = false then
      Option.bind (call 19 [(V.agg [(V.ref 0 0)]), (V.int IntKind.u8 (61 : Int))] [(Ob.cells [(V.str (V.getS (List.headD (Ob.getC (List.headD p1.2 Ob.dead)) V.bot)))])]) fun p3 =>
      if (!(V.getB p3.1)) = true then
        some ((V.lst 42 false l0), [(Ob.cells [(V.str (V.getS (List.headD (Ob.getC (List.headD p3.2 Ob.dead)) V.bot)))])])
      else
        Option.bind (call 35 [(V.agg [(V.ref 0 0)])] [(Ob.cells [(V.str (V.getS (List.headD (Ob.getC (List.headD p3.2 Ob.dead)) V.bot)))])]) fun p4 =>
        if (!(V.getB (List.headD (List.tail (V.getT p4.1)) V.bot))) = true then
          some ((V.lst 42 false l0), [(Ob.cells [(V.str (V.getS (List.headD (Ob.getC (List.headD p4.2 Ob.dead)) V.bot)))])])
        else
          chk (appOk l0 [(V.agg [(V.str (V.getS p2.1)), (V.str (V.getS (List.headD (V.getT p4.1) V.bot)))])] 33) ((ag0 ((l0 ++ [(V.agg [(V.str (V.getS p2.1)), (V.str (V.getS (List.headD (V.getT p4.1) V.bot)))])])) ((V.getS (List.headD (Ob.getC (List.headD p4.2 Ob.dead)) V.bot)))))
    else
      some ((V.lst 42 false l0), [(Ob.cells [(V.str (V.getS (List.headD (Ob.getC (List.headD p1.2 Ob.dead)) V.bot)))])])
  else
    some ((V.lst 42 false l0), [(Ob.cells [(V.str (V.getS (List.headD (Ob.getC (List.headD p0.2 Ob.dead)) V.bot)))])])
def T20 (call : FuncId → Fun) (ag0 : List V → List UInt8 → Option (V × List Ob)) (a0 : List UInt8) : Option (V × List Ob) :=
  (ag0 ([]) (a0))
def K20_0 (l0 : List V) (s1 : List UInt8) : St := ⟨[V.bot, (V.ref 1 0), V.bot, (V.lst 42 true l0), V.bot, V.bot, V.bot, V.bot, V.bot, V.bot, V.bot, V.bot, V.bot, V.bot, V.bot, V.bot, V.bot, V.bot, V.bot, V.bot, V.bot, V.bot, V.bot, V.bot, V.bot, V.bot, V.bot, V.bot, V.bot, V.bot, V.bot, V.bot, V.bot], [(Ob.cells [(V.str s1)]), (Ob.cells [(V.ref 0 0)])]⟩
theorem S20_0 (call : FuncId → Fun) (icall : ICall (V × List Ob)) (again : List It → St → Option (V × List Ob)) (a0 : List UInt8) (l0 : List V) (s1 : List UInt8) :
    runM cfg call icall (slotsOf Tryd.f20.results.toList) (List.length ([Ob.cells [V.str a0]] : List Ob)) again (finV cfg Tryd.f20 (finish cfg Tryd.f20 20 (List.map OSh.of ([Ob.cells [V.str a0]] : List Ob)))) depth (tdOf Tryd.f20 0) (K20_0 l0 s1) = T20_0 call (fun l0 s1 => again (tdOf Tryd.f20 0) (K20_0 l0 s1)) l0 s1 := by kernel_rfl
theorem E20 (call : FuncId → Fun) (icall : ICall (V × List Ob)) (again : List It → St → Option (V × List Ob)) (a0 : List UInt8) :
    (envK [V.agg [V.ref 0 0]] Tryd.f20.ntmps fun env => runM cfg call icall (slotsOf Tryd.f20.results.toList) (List.length ([Ob.cells [V.str a0]] : List Ob)) again (finV cfg Tryd.f20 (finish cfg Tryd.f20 20 (List.map OSh.of ([Ob.cells [V.str a0]] : List Ob)))) depth [.code (codeOf Tryd.f20)] ⟨env, [Ob.cells [V.str a0]]⟩) = T20 call (fun l0 s1 => again (tdOf Tryd.f20 0) (K20_0 l0 s1)) a0 := by kernel_rfl
def L20 (call : FuncId → Fun) : Nat → (List V → List UInt8 → Option (V × List Ob))
  | 0 => fun _ _ => none
  | n + 1 => T20_0 call (L20 call n)
theorem R20 (call : FuncId → Fun) (icall : ICall (V × List Ob)) (a0 : List UInt8) : ∀ n, (∀ (l0 : List V) (s1 : List UInt8), Go.Ev.runN cfg call icall (slotsOf Tryd.f20.results.toList) (List.length ([Ob.cells [V.str a0]] : List Ob)) (finV cfg Tryd.f20 (finish cfg Tryd.f20 20 (List.map OSh.of ([Ob.cells [V.str a0]] : List Ob)))) n (tdOf Tryd.f20 0) (K20_0 l0 s1) = (L20 call n) l0 s1)
  | 0 => fun l0 s1 => rfl
  | n + 1 => by
    have ih := R20 call icall a0 n
    exact fun l0 s1 => (S20_0 call icall (Go.Ev.runN cfg call icall (slotsOf Tryd.f20.results.toList) (List.length ([Ob.cells [V.str a0]] : List Ob)) (finV cfg Tryd.f20 (finish cfg Tryd.f20 20 (List.map OSh.of ([Ob.cells [V.str a0]] : List Ob)))) n) a0 l0 s1).trans (by
      rw [show (fun l0 s1 => Go.Ev.runN cfg call icall (slotsOf Tryd.f20.results.toList) (List.length ([Ob.cells [V.str a0]] : List Ob)) (finV cfg Tryd.f20 (finish cfg Tryd.f20 20 (List.map OSh.of ([Ob.cells [V.str a0]] : List Ob)))) n (tdOf Tryd.f20 0) (K20_0 l0 s1)) = (L20 call n) from (funext fun l0 => funext fun s1 => ih l0 s1)]; rfl)
theorem C20 (k : Nat) (a0 : List UInt8) : callN cfg (k + 1) 20 [V.agg [V.ref 0 0]] [Ob.cells [V.str a0]] = T20 (callN cfg k) (L20 (callN cfg k) k) a0 := by
  have ih := R20 (callN cfg k) (icallN cfg (callN cfg k) 20) a0 k
  refine (show callN cfg (k + 1) 20 [V.agg [V.ref 0 0]] [Ob.cells [V.str a0]] = (envK [V.agg [V.ref 0 0]] Tryd.f20.ntmps fun env => runM cfg (callN cfg k) (icallN cfg (callN cfg k) 20) (slotsOf Tryd.f20.results.toList) (List.length ([Ob.cells [V.str a0]] : List Ob)) (Go.Ev.runN cfg (callN cfg k) (icallN cfg (callN cfg k) 20) (slotsOf Tryd.f20.results.toList) (List.length ([Ob.cells [V.str a0]] : List Ob)) (finV cfg Tryd.f20 (finish cfg Tryd.f20 20 (List.map OSh.of ([Ob.cells [V.str a0]] : List Ob)))) k) (finV cfg Tryd.f20 (finish cfg Tryd.f20 20 (List.map OSh.of ([Ob.cells [V.str a0]] : List Ob)))) depth [.code (codeOf Tryd.f20)] ⟨env, [Ob.cells [V.str a0]]⟩) by kernel_rfl).trans ((E20 _ _ _ a0).trans ?_)
  rw [show (fun l0 s1 => Go.Ev.runN cfg (callN cfg k) (icallN cfg (callN cfg k) 20) (slotsOf Tryd.f20.results.toList) (List.length ([Ob.cells [V.str a0]] : List Ob)) (finV cfg Tryd.f20 (finish cfg Tryd.f20 20 (List.map OSh.of ([Ob.cells [V.str a0]] : List Ob)))) k (tdOf Tryd.f20 0) (K20_0 l0 s1)) = (L20 (callN cfg k) k) from (funext fun l0 => funext fun s1 => ih l0 s1)]
theorem M20 (a0 : List UInt8) {r : V × List Ob} (h : Evt (fun k n => T20 (callN cfg k) (L20 (callN cfg k) n) a0) r) : Ret 20 [V.agg [V.ref 0 0]] [Ob.cells [V.str a0]] r := ret_mk (g := fun k n => T20 (callN cfg k) (L20 (callN cfg k) n) a0) (fun k => C20 k a0) h
theorem N20_0 (l0 : List V) (s1 : List UInt8) {r : V × List Ob} (h : Evt (fun k n => T20_0 (callN cfg k) (L20 (callN cfg k) n) l0 s1) r) : Evt (fun k n => (L20 (callN cfg k) n) l0 s1) r := evt_step (g' := fun k n => T20_0 (callN cfg k) (L20 (callN cfg k) n) l0 s1) (fun k n => rfl) h

def T21 (call : FuncId → Fun)  (a0 : List UInt8) : Option (V × List Ob) :=
  Option.bind (call 36 [(V.str a0), (V.str [42])] []) fun p0 =>
  some ((V.tup [(V.str (V.getS (List.headD (V.getT p0.1) V.bot))), (V.str (V.getS (List.headD (List.tail (V.getT p0.1)) V.bot))), (V.bool (V.getB (List.headD (List.tail (List.tail (V.getT p0.1))) V.bot)))]), [])
theorem E21 (call : FuncId → Fun) (icall : ICall (V × List Ob)) (again : List It → St → Option (V × List Ob)) (a0 : List UInt8) :
    (envK [V.str a0, V.str [42]] Tryd.f21.ntmps fun env => runM cfg call icall (slotsOf Tryd.f21.results.toList) (List.length (([] : List Ob) : List Ob)) again (finV cfg Tryd.f21 (finish cfg Tryd.f21 21 (List.map OSh.of (([] : List Ob) : List Ob)))) depth [.code (codeOf Tryd.f21)] ⟨env, ([] : List Ob)⟩) = T21 call  a0 := by kernel_rfl
theorem C21 (k : Nat) (a0 : List UInt8) : callN cfg (k + 1) 21 [V.str a0, V.str [42]] ([] : List Ob) = T21 (callN cfg k) a0 :=
  (show callN cfg (k + 1) 21 [V.str a0, V.str [42]] ([] : List Ob) = (envK [V.str a0, V.str [42]] Tryd.f21.ntmps fun env => runM cfg (callN cfg k) (icallN cfg (callN cfg k) 20) (slotsOf Tryd.f21.results.toList) (List.length (([] : List Ob) : List Ob)) (Go.Ev.runN cfg (callN cfg k) (icallN cfg (callN cfg k) 20) (slotsOf Tryd.f21.results.toList) (List.length (([] : List Ob) : List Ob)) (finV cfg Tryd.f21 (finish cfg Tryd.f21 21 (List.map OSh.of (([] : List Ob) : List Ob)))) k) (finV cfg Tryd.f21 (finish cfg Tryd.f21 21 (List.map OSh.of (([] : List Ob) : List Ob)))) depth [.code (codeOf Tryd.f21)] ⟨env, ([] : List Ob)⟩) by kernel_rfl).trans (E21 _ _ _ a0)
theorem M21 (a0 : List UInt8) {r : V × List Ob} (h : Evt (fun k n => T21 (callN cfg k)  a0) r) : Ret 21 [V.str a0, V.str [42]] ([] : List Ob) r := ret_mk (g := fun k n => T21 (callN cfg k)  a0) (fun k => C21 k a0) h

def T22 (call : FuncId → Fun)  (a0 : List V) (a1 : List UInt8) : Option (V × List Ob) :=
  Option.bind (call 37 [(V.lst 42 false a0), (V.str a1)] []) fun p0 =>
  if (V.getB (List.headD (List.tail (V.getT p0.1)) V.bot)) = true then
    some ((V.tup [(V.str (V.getS (List.headD (V.getT p0.1) V.bot))), (V.bool true)]), [])
  else
    chk (catOk a1 [42]) (Option.bind (call 37 [(V.lst 42 false a0), (V.str (a1 ++ [42]))] []) fun p1 =>
    if (V.getB (List.headD (List.tail (V.getT p1.1)) V.bot)) = true then
      Option.bind (call 39 [(V.str (V.getS (List.headD (V.getT p1.1) V.bot)))] []) fun p2 =>
      Option.bind (call 38 [(V.str (V.getS p2.1))] []) fun p3 =>
      some ((V.tup [(V.str (V.getS p3.1)), (V.bool true)]), [])
    else
      Option.bind (call 40 [(V.lst 42 false a0), (V.str a1)] []) fun p2 =>
      some ((V.tup [(V.str (V.getS (List.headD (V.getT p2.1) V.bot))), (V.bool (V.getB (List.headD (List.tail (V.getT p2.1)) V.bot)))]), []))
theorem E22 (call : FuncId → Fun) (icall : ICall (V × List Ob)) (again : List It → St → Option (V × List Ob)) (a0 : List V) (a1 : List UInt8) :
    (envK [V.lst 42 false a0, V.str a1] Tryd.f22.ntmps fun env => runM cfg call icall (slotsOf Tryd.f22.results.toList) (List.length (([] : List Ob) : List Ob)) again (finV cfg Tryd.f22 (finish cfg Tryd.f22 22 (List.map OSh.of (([] : List Ob) : List Ob)))) depth [.code (codeOf Tryd.f22)] ⟨env, ([] : List Ob)⟩) = T22 call  a0 a1 := by kernel_rfl
theorem C22 (k : Nat) (a0 : List V) (a1 : List UInt8) : callN cfg (k + 1) 22 [V.lst 42 false a0, V.str a1] ([] : List Ob) = T22 (callN cfg k) a0 a1 :=
  (show callN cfg (k + 1) 22 [V.lst 42 false a0, V.str a1] ([] : List Ob) = (envK [V.lst 42 false a0, V.str a1] Tryd.f22.ntmps fun env => runM cfg (callN cfg k) (icallN cfg (callN cfg k) 20) (slotsOf Tryd.f22.results.toList) (List.length (([] : List Ob) : List Ob)) (Go.Ev.runN cfg (callN cfg k) (icallN cfg (callN cfg k) 20) (slotsOf Tryd.f22.results.toList) (List.length (([] : List Ob) : List Ob)) (finV cfg Tryd.f22 (finish cfg Tryd.f22 22 (List.map OSh.of (([] : List Ob) : List Ob)))) k) (finV cfg Tryd.f22 (finish cfg Tryd.f22 22 (List.map OSh.of (([] : List Ob) : List Ob)))) depth [.code (codeOf Tryd.f22)] ⟨env, ([] : List Ob)⟩) by kernel_rfl).trans (E22 _ _ _ a0 a1)
theorem M22 (a0 : List V) (a1 : List UInt8) {r : V × List Ob} (h : Evt (fun k n => T22 (callN cfg k)  a0 a1) r) : Ret 22 [V.lst 42 false a0, V.str a1] ([] : List Ob) r := ret_mk (g := fun k n => T22 (callN cfg k)  a0 a1) (fun k => C22 k a0 a1) h

def T29 (call : FuncId → Fun)  (a0 : List UInt8) (a1 : List UInt8) : Option (V × List Ob) :=
  Option.bind (call 17 [(V.str a0)] []) fun p0 =>
  Option.bind (call 17 [(V.str a1)] []) fun p1 =>
  some ((V.bool (sEq (V.getS p0.1) (V.getS p1.1))), [])
theorem E29 (call : FuncId → Fun) (icall : ICall (V × List Ob)) (again : List It → St → Option (V × List Ob)) (a0 : List UInt8) (a1 : List UInt8) :
    (envK [V.str a0, V.str a1] Tryd.f29.ntmps fun env => runM cfg call icall (slotsOf Tryd.f29.results.toList) (List.length (([] : List Ob) : List Ob)) again (finV cfg Tryd.f29 (finish cfg Tryd.f29 29 (List.map OSh.of (([] : List Ob) : List Ob)))) depth [.code (codeOf Tryd.f29)] ⟨env, ([] : List Ob)⟩) = T29 call  a0 a1 := by kernel_rfl
theorem C29 (k : Nat) (a0 : List UInt8) (a1 : List UInt8) : callN cfg (k + 1) 29 [V.str a0, V.str a1] ([] : List Ob) = T29 (callN cfg k) a0 a1 :=
  (show callN cfg (k + 1) 29 [V.str a0, V.str a1] ([] : List Ob) = (envK [V.str a0, V.str a1] Tryd.f29.ntmps fun env => runM cfg (callN cfg k) (icallN cfg (callN cfg k) 20) (slotsOf Tryd.f29.results.toList) (List.length (([] : List Ob) : List Ob)) (Go.Ev.runN cfg (callN cfg k) (icallN cfg (callN cfg k) 20) (slotsOf Tryd.f29.results.toList) (List.length (([] : List Ob) : List Ob)) (finV cfg Tryd.f29 (finish cfg Tryd.f29 29 (List.map OSh.of (([] : List Ob) : List Ob)))) k) (finV cfg Tryd.f29 (finish cfg Tryd.f29 29 (List.map OSh.of (([] : List Ob) : List Ob)))) depth [.code (codeOf Tryd.f29)] ⟨env, ([] : List Ob)⟩) by kernel_rfl).trans (E29 _ _ _ a0 a1)
theorem M29 (a0 : List UInt8) (a1 : List UInt8) {r : V × List Ob} (h : Evt (fun k n => T29 (callN cfg k)  a0 a1) r) : Ret 29 [V.str a0, V.str a1] ([] : List Ob) r := ret_mk (g := fun k n => T29 (callN cfg k)  a0 a1) (fun k => C29 k a0 a1) h

def T30 (call : FuncId → Fun)  (a0 : List UInt8) (a1 : Int) : Option (V × List Ob) :=
  if (decide (a1 ≥ ((List.length a0 : Nat) : Int))) = true then
    some ((V.int IntKind.u8 (0 : Int)), [(Ob.cells [(V.str a0)])])
  else
    chk (decide (0 ≤ a1)) (chk (decide (a1 < ((List.length a0 : Nat) : Int))) (some ((V.int IntKind.u8 ((UInt8.toNat (List.getD a0 (Int.toNat a1) 0) : Nat) : Int)), [(Ob.cells [(V.str a0)])])))
theorem E30 (call : FuncId → Fun) (icall : ICall (V × List Ob)) (again : List It → St → Option (V × List Ob)) (a0 : List UInt8) (a1 : Int) :
    (envK [V.ref 0 0, V.int IntKind.i64 a1] Tryd.f30.ntmps fun env => runM cfg call icall (slotsOf Tryd.f30.results.toList) (List.length ([Ob.cells [V.str a0]] : List Ob)) again (finV cfg Tryd.f30 (finish cfg Tryd.f30 30 (List.map OSh.of ([Ob.cells [V.str a0]] : List Ob)))) depth [.code (codeOf Tryd.f30)] ⟨env, [Ob.cells [V.str a0]]⟩) = T30 call  a0 a1 := by kernel_rfl
theorem C30 (k : Nat) (a0 : List UInt8) (a1 : Int) : callN cfg (k + 1) 30 [V.ref 0 0, V.int IntKind.i64 a1] [Ob.cells [V.str a0]] = T30 (callN cfg k) a0 a1 :=
  (show callN cfg (k + 1) 30 [V.ref 0 0, V.int IntKind.i64 a1] [Ob.cells [V.str a0]] = (envK [V.ref 0 0, V.int IntKind.i64 a1] Tryd.f30.ntmps fun env => runM cfg (callN cfg k) (icallN cfg (callN cfg k) 20) (slotsOf Tryd.f30.results.toList) (List.length ([Ob.cells [V.str a0]] : List Ob)) (Go.Ev.runN cfg (callN cfg k) (icallN cfg (callN cfg k) 20) (slotsOf Tryd.f30.results.toList) (List.length ([Ob.cells [V.str a0]] : List Ob)) (finV cfg Tryd.f30 (finish cfg Tryd.f30 30 (List.map OSh.of ([Ob.cells [V.str a0]] : List Ob)))) k) (finV cfg Tryd.f30 (finish cfg Tryd.f30 30 (List.map OSh.of ([Ob.cells [V.str a0]] : List Ob)))) depth [.code (codeOf Tryd.f30)] ⟨env, [Ob.cells [V.str a0]]⟩) by kernel_rfl).trans (E30 _ _ _ a0 a1)
theorem M30 (a0 : List UInt8) (a1 : Int) {r : V × List Ob} (h : Evt (fun k n => T30 (callN cfg k)  a0 a1) r) : Ret 30 [V.ref 0 0, V.int IntKind.i64 a1] [Ob.cells [V.str a0]] r := ret_mk (g := fun k n => T30 (callN cfg k)  a0 a1) (fun k => C30 k a0 a1) h

def T31 (call : FuncId → Fun)  (a0 : Int) : Option (V × List Ob) :=
  Option.bind (if (a0 == (32 : Int)) = false then
      some (a0 == (9 : Int))
    else
      some true) fun b0 =>
  some ((V.bool b0), [])
theorem E31 (call : FuncId → Fun) (icall : ICall (V × List Ob)) (again : List It → St → Option (V × List Ob)) (a0 : Int) :
    (envK [V.int IntKind.u8 a0] Tryd.f31.ntmps fun env => runM cfg call icall (slotsOf Tryd.f31.results.toList) (List.length (([] : List Ob) : List Ob)) again (finV cfg Tryd.f31 (finish cfg Tryd.f31 31 (List.map OSh.of (([] : List Ob) : List Ob)))) depth [.code (codeOf Tryd.f31)] ⟨env, ([] : List Ob)⟩) = T31 call  a0 := by kernel_rfl
theorem C31 (k : Nat) (a0 : Int) : callN cfg (k + 1) 31 [V.int IntKind.u8 a0] ([] : List Ob) = T31 (callN cfg k) a0 :=
  (show callN cfg (k + 1) 31 [V.int IntKind.u8 a0] ([] : List Ob) = (envK [V.int IntKind.u8 a0] Tryd.f31.ntmps fun env => runM cfg (callN cfg k) (icallN cfg (callN cfg k) 20) (slotsOf Tryd.f31.results.toList) (List.length (([] : List Ob) : List Ob)) (Go.Ev.runN cfg (callN cfg k) (icallN cfg (callN cfg k) 20) (slotsOf Tryd.f31.results.toList) (List.length (([] : List Ob) : List Ob)) (finV cfg Tryd.f31 (finish cfg Tryd.f31 31 (List.map OSh.of (([] : List Ob) : List Ob)))) k) (finV cfg Tryd.f31 (finish cfg Tryd.f31 31 (List.map OSh.of (([] : List Ob) : List Ob)))) depth [.code (codeOf Tryd.f31)] ⟨env, ([] : List Ob)⟩) by kernel_rfl).trans (E31 _ _ _ a0)
theorem M31 (a0 : Int) {r : V × List Ob} (h : Evt (fun k n => T31 (callN cfg k)  a0) r) : Ret 31 [V.int IntKind.u8 a0] ([] : List Ob) r := ret_mk (g := fun k n => T31 (callN cfg k)  a0) (fun k => C31 k a0) h

def T32_0 (call : FuncId → Fun) (ag0 : Int → Int → List UInt8 → Option (V × List Ob)) (i0 : Int) (i1 : Int) (s2 : List UInt8) : Option (V × List Ob) :=
  if (decide (i1 < ((List.length s2 : Nat) : Int))) = true then
    chk (decide (0 ≤ i1)) (chk (decide (i1 < ((List.length s2 : Nat) : Int))) (if (((UInt8.toNat (List.getD s2 (Int.toNat i1) 0) : Nat) : Int) == (92 : Int)) = true then
      (ag0 (i0) ((IntKind.wrap IntKind.i64 ((IntKind.wrap IntKind.i64 (i1 + (1 : Int))) + (1 : Int)))) (s2))
    else
      if (((UInt8.toNat (List.getD s2 (Int.toNat i1) 0) : Nat) : Int) == (40 : Int)) = true then
        (ag0 ((IntKind.wrap IntKind.i64 (i0 + (1 : Int)))) ((IntKind.wrap IntKind.i64 (i1 + (1 : Int)))) (s2))
      else
        if (((UInt8.toNat (List.getD s2 (Int.toNat i1) 0) : Nat) : Int) == (41 : Int)) = true then
          if ((IntKind.wrap IntKind.i64 (i0 - (1 : Int))) == (0 : Int)) = true then
            some ((V.int IntKind.i64 (IntKind.wrap IntKind.i64 (i1 + (1 : Int)))), [(Ob.cells [(V.str s2)])])
          else
            (ag0 ((IntKind.wrap IntKind.i64 (i0 - (1 : Int)))) ((IntKind.wrap IntKind.i64 (i1 + (1 : Int)))) (s2))
        else
          (ag0 (i0) ((IntKind.wrap IntKind.i64 (i1 + (1 : Int)))) (s2))))
  else
    some ((V.int IntKind.i64 ((List.length s2 : Nat) : Int)), [(Ob.cells [(V.str s2)])])
def T32 (call : FuncId → Fun) (ag0 : Int → Int → List UInt8 → Option (V × List Ob)) (a0 : List UInt8) : Option (V × List Ob) :=
  (ag0 ((0 : Int)) ((0 : Int)) (a0))
def K32_0 (i0 : Int) (i1 : Int) (s2 : List UInt8) : St := ⟨[V.bot, (V.ref 1 0), V.bot, (V.int IntKind.i64 i0), (V.int IntKind.i64 i1), V.bot, V.bot, V.bot, V.bot, V.bot, V.bot, V.bot, V.bot, V.bot, V.bot, V.bot, V.bot, V.bot, V.bot, V.bot, V.bot, V.bot, V.bot, V.bot, V.bot, V.bot, V.bot, V.bot, V.bot, V.bot, V.bot, V.bot, V.bot, V.bot, V.bot, V.bot, V.bot, V.bot, V.bot, V.bot, V.bot, V.bot, V.bot, V.bot], [(Ob.cells [(V.str s2)]), (Ob.cells [(V.ref 0 0)])]⟩
theorem S32_0 (call : FuncId → Fun) (icall : ICall (V × List Ob)) (again : List It → St → Option (V × List Ob)) (a0 : List UInt8) (i0 : Int) (i1 : Int) (s2 : List UInt8) :
    runM cfg call icall (slotsOf Tryd.f32.results.toList) (List.length ([Ob.cells [V.str a0]] : List Ob)) again (finV cfg Tryd.f32 (finish cfg Tryd.f32 32 (List.map OSh.of ([Ob.cells [V.str a0]] : List Ob)))) depth (tdOf Tryd.f32 0) (K32_0 i0 i1 s2) = T32_0 call (fun i0 i1 s2 => again (tdOf Tryd.f32 0) (K32_0 i0 i1 s2)) i0 i1 s2 := by kernel_rfl
theorem E32 (call : FuncId → Fun) (icall : ICall (V × List Ob)) (again : List It → St → Option (V × List Ob)) (a0 : List UInt8) :
    (envK [V.agg [V.ref 0 0]] Tryd.f32.ntmps fun env => runM cfg call icall (slotsOf Tryd.f32.results.toList) (List.length ([Ob.cells [V.str a0]] : List Ob)) again (finV cfg Tryd.f32 (finish cfg Tryd.f32 32 (List.map OSh.of ([Ob.cells [V.str a0]] : List Ob)))) depth [.code (codeOf Tryd.f32)] ⟨env, [Ob.cells [V.str a0]]⟩) = T32 call (fun i0 i1 s2 => again (tdOf Tryd.f32 0) (K32_0 i0 i1 s2)) a0 := by kernel_rfl
def L32 (call : FuncId → Fun) : Nat → (Int → Int → List UInt8 → Option (V × List Ob))
  | 0 => fun _ _ _ => none
  | n + 1 => T32_0 call (L32 call n)
theorem R32 (call : FuncId → Fun) (icall : ICall (V × List Ob)) (a0 : List UInt8) : ∀ n, (∀ (i0 : Int) (i1 : Int) (s2 : List UInt8), Go.Ev.runN cfg call icall (slotsOf Tryd.f32.results.toList) (List.length ([Ob.cells [V.str a0]] : List Ob)) (finV cfg Tryd.f32 (finish cfg Tryd.f32 32 (List.map OSh.of ([Ob.cells [V.str a0]] : List Ob)))) n (tdOf Tryd.f32 0) (K32_0 i0 i1 s2) = (L32 call n) i0 i1 s2)
  | 0 => fun i0 i1 s2 => rfl
  | n + 1 => by
    have ih := R32 call icall a0 n
    exact fun i0 i1 s2 => (S32_0 call icall (Go.Ev.runN cfg call icall (slotsOf Tryd.f32.results.toList) (List.length ([Ob.cells [V.str a0]] : List Ob)) (finV cfg Tryd.f32 (finish cfg Tryd.f32 32 (List.map OSh.of ([Ob.cells [V.str a0]] : List Ob)))) n) a0 i0 i1 s2).trans (by
      rw [show (fun i0 i1 s2 => Go.Ev.runN cfg call icall (slotsOf Tryd.f32.results.toList) (List.length ([Ob.cells [V.str a0]] : List Ob)) (finV cfg Tryd.f32 (finish cfg Tryd.f32 32 (List.map OSh.of ([Ob.cells [V.str a0]] : List Ob)))) n (tdOf Tryd.f32 0) (K32_0 i0 i1 s2)) = (L32 call n) from (funext fun i0 => funext fun i1 => funext fun s2 => ih i0 i1 s2)]; rfl)
theorem C32 (k : Nat) (a0 : List UInt8) : callN cfg (k + 1) 32 [V.agg [V.ref 0 0]] [Ob.cells [V.str a0]] = T32 (callN cfg k) (L32 (callN cfg k) k) a0 := by
  have ih := R32 (callN cfg k) (icallN cfg (callN cfg k) 20) a0 k
  refine (show callN cfg (k + 1) 32 [V.agg [V.ref 0 0]] [Ob.cells [V.str a0]] = (envK [V.agg [V.ref 0 0]] Tryd.f32.ntmps fun env => runM cfg (callN cfg k) (icallN cfg (callN cfg k) 20) (slotsOf Tryd.f32.results.toList) (List.length ([Ob.cells [V.str a0]] : List Ob)) (Go.Ev.runN cfg (callN cfg k) (icallN cfg (callN cfg k) 20) (slotsOf Tryd.f32.results.toList) (List.length ([Ob.cells [V.str a0]] : List Ob)) (finV cfg Tryd.f32 (finish cfg Tryd.f32 32 (List.map OSh.of ([Ob.cells [V.str a0]] : List Ob)))) k) (finV cfg Tryd.f32 (finish cfg Tryd.f32 32 (List.map OSh.of ([Ob.cells [V.str a0]] : List Ob)))) depth [.code (codeOf Tryd.f32)] ⟨env, [Ob.cells [V.str a0]]⟩) by kernel_rfl).trans ((E32 _ _ _ a0).trans ?_)
  rw [show (fun i0 i1 s2 => Go.Ev.runN cfg (callN cfg k) (icallN cfg (callN cfg k) 20) (slotsOf Tryd.f32.results.toList) (List.length ([Ob.cells [V.str a0]] : List Ob)) (finV cfg Tryd.f32 (finish cfg Tryd.f32 32 (List.map OSh.of ([Ob.cells [V.str a0]] : List Ob)))) k (tdOf Tryd.f32 0) (K32_0 i0 i1 s2)) = (L32 (callN cfg k) k) from (funext fun i0 => funext fun i1 => funext fun s2 => ih i0 i1 s2)]
theorem M32 (a0 : List UInt8) {r : V × List Ob} (h : Evt (fun k n => T32 (callN cfg k) (L32 (callN cfg k) n) a0) r) : Ret 32 [V.agg [V.ref 0 0]] [Ob.cells [V.str a0]] r := ret_mk (g := fun k n => T32 (callN cfg k) (L32 (callN cfg k) n) a0) (fun k => C32 k a0) h
theorem N32_0 (i0 : Int) (i1 : Int) (s2 : List UInt8) {r : V × List Ob} (h : Evt (fun k n => T32_0 (callN cfg k) (L32 (callN cfg k) n) i0 i1 s2) r) : Evt (fun k n => (L32 (callN cfg k) n) i0 i1 s2) r := evt_step (g' := fun k n => T32_0 (callN cfg k) (L32 (callN cfg k) n) i0 i1 s2) (fun k n => rfl) h

def T33 (call : FuncId → Fun)  (a0 : Int) : Option (V × List Ob) :=
  Option.bind (if (decide (a0 ≥ (65 : Int))) = true then
      some (decide (a0 ≤ (90 : Int)))
    else
      some false) fun b0 =>
  if b0 = true then
    some ((V.int IntKind.u8 (IntKind.wrap IntKind.u8 ((IntKind.wrap IntKind.u8 (a0 - (65 : Int))) + (97 : Int)))), [])
  else
    some ((V.int IntKind.u8 a0), [])
theorem E33 (call : FuncId → Fun) (icall : ICall (V × List Ob)) (again : List It → St → Option (V × List Ob)) (a0 : Int) :
    (envK [V.int IntKind.u8 a0] Tryd.f33.ntmps fun env => runM cfg call icall (slotsOf Tryd.f33.results.toList) (List.length (([] : List Ob) : List Ob)) again (finV cfg Tryd.f33 (finish cfg Tryd.f33 33 (List.map OSh.of (([] : List Ob) : List Ob)))) depth [.code (codeOf Tryd.f33)] ⟨env, ([] : List Ob)⟩) = T33 call  a0 := by kernel_rfl
theorem C33 (k : Nat) (a0 : Int) : callN cfg (k + 1) 33 [V.int IntKind.u8 a0] ([] : List Ob) = T33 (callN cfg k) a0 :=
  (show callN cfg (k + 1) 33 [V.int IntKind.u8 a0] ([] : List Ob) = (envK [V.int IntKind.u8 a0] Tryd.f33.ntmps fun env => runM cfg (callN cfg k) (icallN cfg (callN cfg k) 20) (slotsOf Tryd.f33.results.toList) (List.length (([] : List Ob) : List Ob)) (Go.Ev.runN cfg (callN cfg k) (icallN cfg (callN cfg k) 20) (slotsOf Tryd.f33.results.toList) (List.length (([] : List Ob) : List Ob)) (finV cfg Tryd.f33 (finish cfg Tryd.f33 33 (List.map OSh.of (([] : List Ob) : List Ob)))) k) (finV cfg Tryd.f33 (finish cfg Tryd.f33 33 (List.map OSh.of (([] : List Ob) : List Ob)))) depth [.code (codeOf Tryd.f33)] ⟨env, ([] : List Ob)⟩) by kernel_rfl).trans (E33 _ _ _ a0)
theorem M33 (a0 : Int) {r : V × List Ob} (h : Evt (fun k n => T33 (callN cfg k)  a0) r) : Ret 33 [V.int IntKind.u8 a0] ([] : List Ob) r := ret_mk (g := fun k n => T33 (callN cfg k)  a0) (fun k => C33 k a0) h

def T34 (call : FuncId → Fun)  (a0 : Int) : Option (V × List Ob) :=
  if (decide (a0 ≥ (33 : Int))) = true then
    if (decide (a0 ≤ (126 : Int))) = true then
      Option.bind (call 49 [(V.str [40, 41, 60, 62, 64, 44, 59, 58, 92, 34, 47, 91, 93, 63, 61]), (V.int IntKind.u8 a0)] []) fun p0 =>
      some ((V.bool (!(V.getB p0.1))), [])
    else
      some ((V.bool false), [])
  else
    some ((V.bool false), [])
theorem E34 (call : FuncId → Fun) (icall : ICall (V × List Ob)) (again : List It → St → Option (V × List Ob)) (a0 : Int) :
    (envK [V.int IntKind.u8 a0] Tryd.f34.ntmps fun env => runM cfg call icall (slotsOf Tryd.f34.results.toList) (List.length (([] : List Ob) : List Ob)) again (finV cfg Tryd.f34 (finish cfg Tryd.f34 34 (List.map OSh.of (([] : List Ob) : List Ob)))) depth [.code (codeOf Tryd.f34)] ⟨env, ([] : List Ob)⟩) = T34 call  a0 := by kernel_rfl
theorem C34 (k : Nat) (a0 : Int) : callN cfg (k + 1) 34 [V.int IntKind.u8 a0] ([] : List Ob) = T34 (callN cfg k) a0 :=
  (show callN cfg (k + 1) 34 [V.int IntKind.u8 a0] ([] : List Ob) = (envK [V.int IntKind.u8 a0] Tryd.f34.ntmps fun env => runM cfg (callN cfg k) (icallN cfg (callN cfg k) 20) (slotsOf Tryd.f34.results.toList) (List.length (([] : List Ob) : List Ob)) (Go.Ev.runN cfg (callN cfg k) (icallN cfg (callN cfg k) 20) (slotsOf Tryd.f34.results.toList) (List.length (([] : List Ob) : List Ob)) (finV cfg Tryd.f34 (finish cfg Tryd.f34 34 (List.map OSh.of (([] : List Ob) : List Ob)))) k) (finV cfg Tryd.f34 (finish cfg Tryd.f34 34 (List.map OSh.of (([] : List Ob) : List Ob)))) depth [.code (codeOf Tryd.f34)] ⟨env, ([] : List Ob)⟩) by kernel_rfl).trans (E34 _ _ _ a0)
theorem M34 (a0 : Int) {r : V × List Ob} (h : Evt (fun k n => T34 (callN cfg k)  a0) r) : Ret 34 [V.int IntKind.u8 a0] ([] : List Ob) r := ret_mk (g := fun k n => T34 (callN cfg k)  a0) (fun k => C34 k a0) h

def T35 (call : FuncId → Fun)  (a0 : List UInt8) : Option (V × List Ob) :=
  Option.bind (call 30 [(V.ref 0 0), (V.int IntKind.i64 (0 : Int))] [(Ob.cells [(V.str a0)])]) fun p0 =>
  if ((V.getI p0.1) == (34 : Int)) = true then
    Option.bind (call 50 [(V.agg [(V.ref 0 0)])] [(Ob.cells [(V.str a0)])]) fun p1 =>
    some ((V.tup [(V.str (V.getS (List.headD (V.getT p1.1) V.bot))), (V.bool (V.getB (List.headD (List.tail (V.getT p1.1)) V.bot)))]), [(Ob.cells [(V.str (V.getS (List.headD (Ob.getC (List.headD p1.2 Ob.dead)) V.bot)))])])
  else
    Option.bind (call 18 [(V.agg [(V.ref 0 0)])] [(Ob.cells [(V.str a0)])]) fun p1 =>
    some ((V.tup [(V.str (V.getS p1.1)), (V.bool (!(sEq (V.getS p1.1) [])))]), [(Ob.cells [(V.str (V.getS (List.headD (Ob.getC (List.headD p1.2 Ob.dead)) V.bot)))])])
theorem E35 (call : FuncId → Fun) (icall : ICall (V × List Ob)) (again : List It → St → Option (V × List Ob)) (a0 : List UInt8) :
    (envK [V.agg [V.ref 0 0]] Tryd.f35.ntmps fun env => runM cfg call icall (slotsOf Tryd.f35.results.toList) (List.length ([Ob.cells [V.str a0]] : List Ob)) again (finV cfg Tryd.f35 (finish cfg Tryd.f35 35 (List.map OSh.of ([Ob.cells [V.str a0]] : List Ob)))) depth [.code (codeOf Tryd.f35)] ⟨env, [Ob.cells [V.str a0]]⟩) = T35 call  a0 := by kernel_rfl
theorem C35 (k : Nat) (a0 : List UInt8) : callN cfg (k + 1) 35 [V.agg [V.ref 0 0]] [Ob.cells [V.str a0]] = T35 (callN cfg k) a0 :=
  (show callN cfg (k + 1) 35 [V.agg [V.ref 0 0]] [Ob.cells [V.str a0]] = (envK [V.agg [V.ref 0 0]] Tryd.f35.ntmps fun env => runM cfg (callN cfg k) (icallN cfg (callN cfg k) 20) (slotsOf Tryd.f35.results.toList) (List.length ([Ob.cells [V.str a0]] : List Ob)) (Go.Ev.runN cfg (callN cfg k) (icallN cfg (callN cfg k) 20) (slotsOf Tryd.f35.results.toList) (List.length ([Ob.cells [V.str a0]] : List Ob)) (finV cfg Tryd.f35 (finish cfg Tryd.f35 35 (List.map OSh.of ([Ob.cells [V.str a0]] : List Ob)))) k) (finV cfg Tryd.f35 (finish cfg Tryd.f35 35 (List.map OSh.of ([Ob.cells [V.str a0]] : List Ob)))) depth [.code (codeOf Tryd.f35)] ⟨env, [Ob.cells [V.str a0]]⟩) by kernel_rfl).trans (E35 _ _ _ a0)
theorem M35 (a0 : List UInt8) {r : V × List Ob} (h : Evt (fun k n => T35 (callN cfg k)  a0) r) : Ret 35 [V.agg [V.ref 0 0]] [Ob.cells [V.str a0]] r := ret_mk (g := fun k n => T35 (callN cfg k)  a0) (fun k => C35 k a0) h

def T36 (call : FuncId → Fun)  (a0 : List UInt8) : Option (V × List Ob) :=
  Option.bind (call 51 [(V.str a0), (V.str [42])] []) fun p0 =>
  if (decide ((V.getI p0.1) ≥ (0 : Int))) = true then
    chk (decide (0 ≤ (V.getI p0.1))) (chk (decide ((V.getI p0.1) ≤ ((List.length a0 : Nat) : Int))) (chk (decide (0 ≤ (0 : Int))) (chk (decide ((0 : Int) ≤ (V.getI p0.1))) (chk (decide (0 ≤ (IntKind.wrap IntKind.i64 ((V.getI p0.1) + ((List.length [42] : Nat) : Int))))) (chk (decide ((IntKind.wrap IntKind.i64 ((V.getI p0.1) + ((List.length [42] : Nat) : Int))) ≤ ((List.length a0 : Nat) : Int))) (some ((V.tup [(V.str (List.drop (Int.toNat (0 : Int)) (List.take (Int.toNat (V.getI p0.1)) a0))), (V.str (List.drop (Int.toNat (IntKind.wrap IntKind.i64 ((V.getI p0.1) + ((List.length [42] : Nat) : Int)))) a0)), (V.bool true)]), [])))))))
  else
    some ((V.tup [(V.str a0), (V.str []), (V.bool false)]), [])
theorem E36 (call : FuncId → Fun) (icall : ICall (V × List Ob)) (again : List It → St → Option (V × List Ob)) (a0 : List UInt8) :
    (envK [V.str a0, V.str [42]] Tryd.f36.ntmps fun env => runM cfg call icall (slotsOf Tryd.f36.results.toList) (List.length (([] : List Ob) : List Ob)) again (finV cfg Tryd.f36 (finish cfg Tryd.f36 36 (List.map OSh.of (([] : List Ob) : List Ob)))) depth [.code (codeOf Tryd.f36)] ⟨env, ([] : List Ob)⟩) = T36 call  a0 := by kernel_rfl
theorem C36 (k : Nat) (a0 : List UInt8) : callN cfg (k + 1) 36 [V.str a0, V.str [42]] ([] : List Ob) = T36 (callN cfg k) a0 :=
  (show callN cfg (k + 1) 36 [V.str a0, V.str [42]] ([] : List Ob) = (envK [V.str a0, V.str [42]] Tryd.f36.ntmps fun env => runM cfg (callN cfg k) (icallN cfg (callN cfg k) 20) (slotsOf Tryd.f36.results.toList) (List.length (([] : List Ob) : List Ob)) (Go.Ev.runN cfg (callN cfg k) (icallN cfg (callN cfg k) 20) (slotsOf Tryd.f36.results.toList) (List.length (([] : List Ob) : List Ob)) (finV cfg Tryd.f36 (finish cfg Tryd.f36 36 (List.map OSh.of (([] : List Ob) : List Ob)))) k) (finV cfg Tryd.f36 (finish cfg Tryd.f36 36 (List.map OSh.of (([] : List Ob) : List Ob)))) depth [.code (codeOf Tryd.f36)] ⟨env, ([] : List Ob)⟩) by kernel_rfl).trans (E36 _ _ _ a0)
theorem M36 (a0 : List UInt8) {r : V × List Ob} (h : Evt (fun k n => T36 (callN cfg k)  a0) r) : Ret 36 [V.str a0, V.str [42]] ([] : List Ob) r := ret_mk (g := fun k n => T36 (callN cfg k)  a0) (fun k => C36 k a0) h

def T37_0 (call : FuncId → Fun) (ag0 : List UInt8 → List V → Int → Int → Option (V × List Ob)) (s0 : List UInt8) (l1 : List V) (i2 : Int) (i3 : Int) : Option (V × List Ob) :=
  if (decide (i3 < i2)) = true then
    chk (decide (0 ≤ i3)) (chk (decide (i3 < ((List.length l1 : Nat) : Int))) (if (sEq (V.getS (List.headD (V.cells (List.getD l1 (Int.toNat i3) V.bot)) V.bot)) s0) = true then
      some ((V.tup [(V.str (V.getS (List.headD (List.tail (V.cells (List.getD l1 (Int.toNat i3) V.bot))) V.bot))), (V.bool true)]), [])
    else
      (ag0 (s0) (l1) (i2) ((IntKind.wrap IntKind.i64 (i3 + (1 : Int)))))))
  else
    some ((V.tup [(V.str []), (V.bool false)]), [])
def T37 (call : FuncId → Fun) (ag0 : List UInt8 → List V → Int → Int → Option (V × List Ob)) (a0 : List V) (a1 : List UInt8) : Option (V × List Ob) :=
  (ag0 (a1) (a0) (((List.length a0 : Nat) : Int)) ((0 : Int)))
def K37_0 (s0 : List UInt8) (l1 : List V) (i2 : Int) (i3 : Int) : St := ⟨[V.bot, (V.str s0), V.bot, V.bot, V.bot, V.bot, V.bot, V.bot, (V.lst 42 false l1), (V.int IntKind.i64 i2), (V.int IntKind.i64 i3), V.bot, V.bot, V.bot, V.bot, V.bot, V.bot, V.bot, V.bot, V.bot, V.bot], []⟩
theorem S37_0 (call : FuncId → Fun) (icall : ICall (V × List Ob)) (again : List It → St → Option (V × List Ob)) (a0 : List V) (a1 : List UInt8) (s0 : List UInt8) (l1 : List V) (i2 : Int) (i3 : Int) :
    runM cfg call icall (slotsOf Tryd.f37.results.toList) (List.length (([] : List Ob) : List Ob)) again (finV cfg Tryd.f37 (finish cfg Tryd.f37 37 (List.map OSh.of (([] : List Ob) : List Ob)))) depth (tdOf Tryd.f37 0) (K37_0 s0 l1 i2 i3) = T37_0 call (fun s0 l1 i2 i3 => again (tdOf Tryd.f37 0) (K37_0 s0 l1 i2 i3)) s0 l1 i2 i3 := by kernel_rfl
theorem E37 (call : FuncId → Fun) (icall : ICall (V × List Ob)) (again : List It → St → Option (V × List Ob)) (a0 : List V) (a1 : List UInt8) :
    (envK [V.lst 42 false a0, V.str a1] Tryd.f37.ntmps fun env => runM cfg call icall (slotsOf Tryd.f37.results.toList) (List.length (([] : List Ob) : List Ob)) again (finV cfg Tryd.f37 (finish cfg Tryd.f37 37 (List.map OSh.of (([] : List Ob) : List Ob)))) depth [.code (codeOf Tryd.f37)] ⟨env, ([] : List Ob)⟩) = T37 call (fun s0 l1 i2 i3 => again (tdOf Tryd.f37 0) (K37_0 s0 l1 i2 i3)) a0 a1 := by kernel_rfl
def L37 (call : FuncId → Fun) : Nat → (List UInt8 → List V → Int → Int → Option (V × List Ob))
  | 0 => fun _ _ _ _ => none
  | n + 1 => T37_0 call (L37 call n)
theorem R37 (call : FuncId → Fun) (icall : ICall (V × List Ob)) (a0 : List V) (a1 : List UInt8) : ∀ n, (∀ (s0 : List UInt8) (l1 : List V) (i2 : Int) (i3 : Int), Go.Ev.runN cfg call icall (slotsOf Tryd.f37.results.toList) (List.length (([] : List Ob) : List Ob)) (finV cfg Tryd.f37 (finish cfg Tryd.f37 37 (List.map OSh.of (([] : List Ob) : List Ob)))) n (tdOf Tryd.f37 0) (K37_0 s0 l1 i2 i3) = (L37 call n) s0 l1 i2 i3)
  | 0 => fun s0 l1 i2 i3 => rfl
  | n + 1 => by
    have ih := R37 call icall a0 a1 n
    exact fun s0 l1 i2 i3 => (S37_0 call icall (Go.Ev.runN cfg call icall (slotsOf Tryd.f37.results.toList) (List.length (([] : List Ob) : List Ob)) (finV cfg Tryd.f37 (finish cfg Tryd.f37 37 (List.map OSh.of (([] : List Ob) : List Ob)))) n) a0 a1 s0 l1 i2 i3).trans (by
      rw [show (fun s0 l1 i2 i3 => Go.Ev.runN cfg call icall (slotsOf Tryd.f37.results.toList) (List.length (([] : List Ob) : List Ob)) (finV cfg Tryd.f37 (finish cfg Tryd.f37 37 (List.map OSh.of (([] : List Ob) : List Ob)))) n (tdOf Tryd.f37 0) (K37_0 s0 l1 i2 i3)) = (L37 call n) from (funext fun s0 => funext fun l1 => funext fun i2 => funext fun i3 => ih s0 l1 i2 i3)]; rfl)
theorem C37 (k : Nat) (a0 : List V) (a1 : List UInt8) : callN cfg (k + 1) 37 [V.lst 42 false a0, V.str a1] ([] : List Ob) = T37 (callN cfg k) (L37 (callN cfg k) k) a0 a1 := by
  have ih := R37 (callN cfg k) (icallN cfg (callN cfg k) 20) a0 a1 k
  refine (show callN cfg (k + 1) 37 [V.lst 42 false a0, V.str a1] ([] : List Ob) = (envK [V.lst 42 false a0, V.str a1] Tryd.f37.ntmps fun env => runM cfg (callN cfg k) (icallN cfg (callN cfg k) 20) (slotsOf Tryd.f37.results.toList) (List.length (([] : List Ob) : List Ob)) (Go.Ev.runN cfg (callN cfg k) (icallN cfg (callN cfg k) 20) (slotsOf Tryd.f37.results.toList) (List.length (([] : List Ob) : List Ob)) (finV cfg Tryd.f37 (finish cfg Tryd.f37 37 (List.map OSh.of (([] : List Ob) : List Ob)))) k) (finV cfg Tryd.f37 (finish cfg Tryd.f37 37 (List.map OSh.of (([] : List Ob) : List Ob)))) depth [.code (codeOf Tryd.f37)] ⟨env, ([] : List Ob)⟩) by kernel_rfl).trans ((E37 _ _ _ a0 a1).trans ?_)
  rw [show (fun s0 l1 i2 i3 => Go.Ev.runN cfg (callN cfg k) (icallN cfg (callN cfg k) 20) (slotsOf Tryd.f37.results.toList) (List.length (([] : List Ob) : List Ob)) (finV cfg Tryd.f37 (finish cfg Tryd.f37 37 (List.map OSh.of (([] : List Ob) : List Ob)))) k (tdOf Tryd.f37 0) (K37_0 s0 l1 i2 i3)) = (L37 (callN cfg k) k) from (funext fun s0 => funext fun l1 => funext fun i2 => funext fun i3 => ih s0 l1 i2 i3)]
theorem M37 (a0 : List V) (a1 : List UInt8) {r : V × List Ob} (h : Evt (fun k n => T37 (callN cfg k) (L37 (callN cfg k) n) a0 a1) r) : Ret 37 [V.lst 42 false a0, V.str a1] ([] : List Ob) r := ret_mk (g := fun k n => T37 (callN cfg k) (L37 (callN cfg k) n) a0 a1) (fun k => C37 k a0 a1) h
theorem N37_0 (s0 : List UInt8) (l1 : List V) (i2 : Int) (i3 : Int) {r : V × List Ob} (h : Evt (fun k n => T37_0 (callN cfg k) (L37 (callN cfg k) n) s0 l1 i2 i3) r) : Evt (fun k n => (L37 (callN cfg k) n) s0 l1 i2 i3) r := evt_step (g' := fun k n => T37_0 (callN cfg k) (L37 (callN cfg k) n) s0 l1 i2 i3) (fun k n => rfl) h

def T38_0 (call : FuncId → Fun) (ag0 : List UInt8 → List V → Int → Option (V × List Ob)) (s0 : List UInt8) (l1 : List V) (i2 : Int) : Option (V × List Ob) :=
  if (decide (i2 < ((List.length s0 : Nat) : Int))) = true then
    Option.bind (chk (decide (0 ≤ i2)) (chk (decide (i2 < ((List.length s0 : Nat) : Int))) (if (((UInt8.toNat (List.getD s0 (Int.toNat i2) 0) : Nat) : Int) == (37 : Int)) = true then
        some (decide ((IntKind.wrap IntKind.i64 (i2 + (2 : Int))) < ((List.length s0 : Nat) : Int)))
      else
        some false))) fun b0 =>
    if b0 = true then
      chk (decide (0 ≤ (IntKind.wrap IntKind.i64 (i2 + (1 : Int))))) (chk (decide ((IntKind.wrap IntKind.i64 (i2 + (1 : Int))) < ((List.length s0 : Nat) : Int))) (Option.bind (call 52 [(V.int IntKind.u8 ((UInt8.toNat (List.getD s0 (Int.toNat (IntKind.wrap IntKind.i64 (i2 + (1 : Int)))) 0) : Nat) : Int))] []) fun p1 =>
      chk (decide (0 ≤ (IntKind.wrap IntKind.i64 (i2 + (2 : Int))))) (chk (decide ((IntKind.wrap IntKind.i64 (i2 + (2 : Int))) < ((List.length s0 : Nat) : Int))) (Option.bind (call 52 [(V.int IntKind.u8 ((UInt8.toNat (List.getD s0 (Int.toNat (IntKind.wrap IntKind.i64 (i2 + (2 : Int)))) 0) : Nat) : Int))] []) fun p2 =>
      Option.bind (if (V.getB (List.headD (List.tail (V.getT p1.1)) V.bot)) = true then
          some (V.getB (List.headD (List.tail (V.getT p2.1)) V.bot))
        else
          some false) fun b3 =>
      if b3 = true then
        chk (decide (0 ≤ (4 : Int))) (chk (appOk l1 [(V.int IntKind.u8 (bits BinOp.or IntKind.u8 (IntKind.wrap IntKind.u8 ((V.getI (List.headD (V.getT p1.1) V.bot)) * 2 ^ min (Int.toNat (4 : Int)) (IntKind.bits IntKind.u8))) (V.getI (List.headD (V.getT p2.1) V.bot))))] 2) ((ag0 (s0) ((l1 ++ [(V.int IntKind.u8 (bits BinOp.or IntKind.u8 (IntKind.wrap IntKind.u8 ((V.getI (List.headD (V.getT p1.1) V.bot)) * 2 ^ min (Int.toNat (4 : Int)) (IntKind.bits IntKind.u8))) (V.getI (List.headD (V.getT p2.1) V.bot))))])) ((IntKind.wrap IntKind.i64 ((IntKind.wrap IntKind.i64 (i2 + (2 : Int))) + (1 : Int)))))))
      else
        chk (decide (0 ≤ i2)) (chk (decide (i2 < ((List.length s0 : Nat) : Int))) (chk (appOk l1 [(V.int IntKind.u8 ((UInt8.toNat (List.getD s0 (Int.toNat i2) 0) : Nat) : Int))] 2) ((ag0 (s0) ((l1 ++ [(V.int IntKind.u8 ((UInt8.toNat (List.getD s0 (Int.toNat i2) 0) : Nat) : Int))])) ((IntKind.wrap IntKind.i64 (i2 + (1 : Int))))))))))))
    else
      chk (decide (0 ≤ i2)) (chk (decide (i2 < ((List.length s0 : Nat) : Int))) (chk (appOk l1 [(V.int IntKind.u8 ((UInt8.toNat (List.getD s0 (Int.toNat i2) 0) : Nat) : Int))] 2) ((ag0 (s0) ((l1 ++ [(V.int IntKind.u8 ((UInt8.toNat (List.getD s0 (Int.toNat i2) 0) : Nat) : Int))])) ((IntKind.wrap IntKind.i64 (i2 + (1 : Int))))))))
  else
    some ((V.str (bytesOf l1)), [])
def T38 (call : FuncId → Fun) (ag0 : List UInt8 → List V → Int → Option (V × List Ob)) (a0 : List UInt8) : Option (V × List Ob) :=
  (ag0 (a0) ([]) ((0 : Int)))
def K38_0 (s0 : List UInt8) (l1 : List V) (i2 : Int) : St := ⟨[(V.str s0), V.bot, V.bot, (V.lst 5 true l1), (V.int IntKind.i64 i2), V.bot, V.bot, V.bot, V.bot, V.bot, V.bot, V.bot, V.bot, V.bot, V.bot, V.bot, V.bot, V.bot, V.bot, V.bot, V.bot, V.bot, V.bot, V.bot, V.bot, V.bot, V.bot, V.bot, V.bot, V.bot, V.bot, V.bot, V.bot, V.bot, V.bot, V.bot, V.bot, V.bot, V.bot, V.bot, V.bot, V.bot, V.bot, V.bot, V.bot, V.bot, V.bot, V.bot, V.bot, V.bot, V.bot, V.bot, V.bot, V.bot, V.bot, V.bot, V.bot, V.bot, V.bot, V.bot, V.bot, V.bot, V.bot], []⟩
theorem S38_0 (call : FuncId → Fun) (icall : ICall (V × List Ob)) (again : List It → St → Option (V × List Ob)) (a0 : List UInt8) (s0 : List UInt8) (l1 : List V) (i2 : Int) :
    runM cfg call icall (slotsOf Tryd.f38.results.toList) (List.length (([] : List Ob) : List Ob)) again (finV cfg Tryd.f38 (finish cfg Tryd.f38 38 (List.map OSh.of (([] : List Ob) : List Ob)))) depth (tdOf Tryd.f38 0) (K38_0 s0 l1 i2) = T38_0 call (fun s0 l1 i2 => again (tdOf Tryd.f38 0) (K38_0 s0 l1 i2)) s0 l1 i2 := by kernel_rfl
theorem E38 (call : FuncId → Fun) (icall : ICall (V × List Ob)) (again : List It → St → Option (V × List Ob)) (a0 : List UInt8) :
    (envK [V.str a0] Tryd.f38.ntmps fun env => runM cfg call icall (slotsOf Tryd.f38.results.toList) (List.length (([] : List Ob) : List Ob)) again (finV cfg Tryd.f38 (finish cfg Tryd.f38 38 (List.map OSh.of (([] : List Ob) : List Ob)))) depth [.code (codeOf Tryd.f38)] ⟨env, ([] : List Ob)⟩) = T38 call (fun s0 l1 i2 => again (tdOf Tryd.f38 0) (K38_0 s0 l1 i2)) a0 := by kernel_rfl
def L38 (call : FuncId → Fun) : Nat → (List UInt8 → List V → Int → Option (V × List Ob))
  | 0 => fun _ _ _ => none
  | n + 1 => T38_0 call (L38 call n)
theorem R38 (call : FuncId → Fun) (icall : ICall (V × List Ob)) (a0 : List UInt8) : ∀ n, (∀ (s0 : List UInt8) (l1 : List V) (i2 : Int), Go.Ev.runN cfg call icall (slotsOf Tryd.f38.results.toList) (List.length (([] : List Ob) : List Ob)) (finV cfg Tryd.f38 (finish cfg Tryd.f38 38 (List.map OSh.of (([] : List Ob) : List Ob)))) n (tdOf Tryd.f38 0) (K38_0 s0 l1 i2) = (L38 call n) s0 l1 i2)
  | 0 => fun s0 l1 i2 => rfl
  | n + 1 => by
    have ih := R38 call icall a0 n
    exact fun s0 l1 i2 => (S38_0 call icall (Go.Ev.runN cfg call icall (slotsOf Tryd.f38.results.toList) (List.length (([] : List Ob) : List Ob)) (finV cfg Tryd.f38 (finish cfg Tryd.f38 38 (List.map OSh.of (([] : List Ob) : List Ob)))) n) a0 s0 l1 i2).trans (by
      rw [show (fun s0 l1 i2 => Go.Ev.runN cfg call icall (slotsOf Tryd.f38.results.toList) (List.length (([] : List Ob) : List Ob)) (finV cfg Tryd.f38 (finish cfg Tryd.f38 38 (List.map OSh.of (([] : List Ob) : List Ob)))) n (tdOf Tryd.f38 0) (K38_0 s0 l1 i2)) = (L38 call n) from (funext fun s0 => funext fun l1 => funext fun i2 => ih s0 l1 i2)]; rfl)
theorem C38 (k : Nat) (a0 : List UInt8) : callN cfg (k + 1) 38 [V.str a0] ([] : List Ob) = T38 (callN cfg k) (L38 (callN cfg k) k) a0 := by
  have ih := R38 (callN cfg k) (icallN cfg (callN cfg k) 20) a0 k
  refine (show callN cfg (k + 1) 38 [V.str a0] ([] : List Ob) = (envK [V.str a0] Tryd.f38.ntmps fun env => runM cfg (callN cfg k) (icallN cfg (callN cfg k) 20) (slotsOf Tryd.f38.results.toList) (List.length (([] : List Ob) : List Ob)) (Go.Ev.runN cfg (callN cfg k) (icallN cfg (callN cfg k) 20) (slotsOf Tryd.f38.results.toList) (List.length (([] : List Ob) : List Ob)) (finV cfg Tryd.f38 (finish cfg Tryd.f38 38 (List.map OSh.of (([] : List Ob) : List Ob)))) k) (finV cfg Tryd.f38 (finish cfg Tryd.f38 38 (List.map OSh.of (([] : List Ob) : List Ob)))) depth [.code (codeOf Tryd.f38)] ⟨env, ([] : List Ob)⟩) by kernel_rfl).trans ((E38 _ _ _ a0).trans ?_)
  rw [show (fun s0 l1 i2 => Go.Ev.runN cfg (callN cfg k) (icallN cfg (callN cfg k) 20) (slotsOf Tryd.f38.results.toList) (List.length (([] : List Ob) : List Ob)) (finV cfg Tryd.f38 (finish cfg Tryd.f38 38 (List.map OSh.of (([] : List Ob) : List Ob)))) k (tdOf Tryd.f38 0) (K38_0 s0 l1 i2)) = (L38 (callN cfg k) k) from (funext fun s0 => funext fun l1 => funext fun i2 => ih s0 l1 i2)]
theorem M38 (a0 : List UInt8) {r : V × List Ob} (h : Evt (fun k n => T38 (callN cfg k) (L38 (callN cfg k) n) a0) r) : Ret 38 [V.str a0] ([] : List Ob) r := ret_mk (g := fun k n => T38 (callN cfg k) (L38 (callN cfg k) n) a0) (fun k => C38 k a0) h
theorem N38_0 (s0 : List UInt8) (l1 : List V) (i2 : Int) {r : V × List Ob} (h : Evt (fun k n => T38_0 (callN cfg k) (L38 (callN cfg k) n) s0 l1 i2) r) : Evt (fun k n => (L38 (callN cfg k) n) s0 l1 i2) r := evt_step (g' := fun k n => T38_0 (callN cfg k) (L38 (callN cfg k) n) s0 l1 i2) (fun k n => rfl) h

def T39 (call : FuncId → Fun)  (a0 : List UInt8) : Option (V × List Ob) :=
  Option.bind (call 53 [(V.str a0), (V.str [39]), (V.int IntKind.i64 (3 : Int))] []) fun p0 =>
  if (decide (((List.length (V.getL p0.1) : Nat) : Int) < (3 : Int))) = true then
    some ((V.str a0), [])
  else
    chk (decide (0 ≤ (2 : Int))) (chk (decide ((2 : Int) < ((List.length (V.getL p0.1) : Nat) : Int))) (some ((V.str (V.getS (List.getD (V.getL p0.1) (Int.toNat (2 : Int)) V.bot))), [])))
theorem E39 (call : FuncId → Fun) (icall : ICall (V × List Ob)) (again : List It → St → Option (V × List Ob)) (a0 : List UInt8) :
    (envK [V.str a0] Tryd.f39.ntmps fun env => runM cfg call icall (slotsOf Tryd.f39.results.toList) (List.length (([] : List Ob) : List Ob)) again (finV cfg Tryd.f39 (finish cfg Tryd.f39 39 (List.map OSh.of (([] : List Ob) : List Ob)))) depth [.code (codeOf Tryd.f39)] ⟨env, ([] : List Ob)⟩) = T39 call  a0 := by kernel_rfl
theorem C39 (k : Nat) (a0 : List UInt8) : callN cfg (k + 1) 39 [V.str a0] ([] : List Ob) = T39 (callN cfg k) a0 :=
  (show callN cfg (k + 1) 39 [V.str a0] ([] : List Ob) = (envK [V.str a0] Tryd.f39.ntmps fun env => runM cfg (callN cfg k) (icallN cfg (callN cfg k) 20) (slotsOf Tryd.f39.results.toList) (List.length (([] : List Ob) : List Ob)) (Go.Ev.runN cfg (callN cfg k) (icallN cfg (callN cfg k) 20) (slotsOf Tryd.f39.results.toList) (List.length (([] : List Ob) : List Ob)) (finV cfg Tryd.f39 (finish cfg Tryd.f39 39 (List.map OSh.of (([] : List Ob) : List Ob)))) k) (finV cfg Tryd.f39 (finish cfg Tryd.f39 39 (List.map OSh.of (([] : List Ob) : List Ob)))) depth [.code (codeOf Tryd.f39)] ⟨env, ([] : List Ob)⟩) by kernel_rfl).trans (E39 _ _ _ a0)
theorem M39 (a0 : List UInt8) {r : V × List Ob} (h : Evt (fun k n => T39 (callN cfg k)  a0) r) : Ret 39 [V.str a0] ([] : List Ob) r := ret_mk (g := fun k n => T39 (callN cfg k)  a0) (fun k => C39 k a0) h

def T40_0 (call : FuncId → Fun) (ag0 : List V → List UInt8 → List UInt8 → Int → Option (V × List Ob)) (l0 : List V) (s1 : List UInt8) (s2 : List UInt8) (i3 : Int) : Option (V × List Ob) :=
  chk (catOk s1 [42]) (Option.bind (call 54 [(V.int IntKind.i64 i3)] []) fun p0 =>
  chk (catOk (s1 ++ [42]) (V.getS p0.1)) (Option.bind (call 37 [(V.lst 42 false l0), (V.str ((s1 ++ [42]) ++ (V.getS p0.1)))] []) fun p1 =>
  if (!(V.getB (List.headD (List.tail (V.getT p1.1)) V.bot))) = true then
    chk (catOk ((s1 ++ [42]) ++ (V.getS p0.1)) [42]) (Option.bind (call 37 [(V.lst 42 false l0), (V.str (((s1 ++ [42]) ++ (V.getS p0.1)) ++ [42]))] []) fun p2 =>
    if (!(V.getB (List.headD (List.tail (V.getT p2.1)) V.bot))) = true then
      some ((V.tup [(V.str s2), (V.bool (decide (i3 > (0 : Int))))]), [])
    else
      if (i3 == (0 : Int)) = true then
        Option.bind (call 39 [(V.str (V.getS (List.headD (V.getT p2.1) V.bot)))] []) fun p3 =>
        Option.bind (call 38 [(V.str (V.getS p3.1))] []) fun p4 =>
        chk (catOk s2 (V.getS p4.1)) ((ag0 (l0) (s1) ((s2 ++ (V.getS p4.1))) ((IntKind.wrap IntKind.i64 (i3 + (1 : Int))))))
      else
        Option.bind (call 38 [(V.str (V.getS (List.headD (V.getT p2.1) V.bot)))] []) fun p3 =>
        chk (catOk s2 (V.getS p3.1)) ((ag0 (l0) (s1) ((s2 ++ (V.getS p3.1))) ((IntKind.wrap IntKind.i64 (i3 + (1 : Int)))))))
  else
    chk (catOk s2 (V.getS (List.headD (V.getT p1.1) V.bot))) ((ag0 (l0) (s1) ((s2 ++ (V.getS (List.headD (V.getT p1.1) V.bot)))) ((IntKind.wrap IntKind.i64 (i3 + (1 : Int))))))))
def T40 (call : FuncId → Fun) (ag0 : List V → List UInt8 → List UInt8 → Int → Option (V × List Ob)) (a0 : List V) (a1 : List UInt8) : Option (V × List Ob) :=
  (ag0 (a0) (a1) ([]) ((0 : Int)))
def K40_0 (l0 : List V) (s1 : List UInt8) (s2 : List UInt8) (i3 : Int) : St := ⟨[(V.lst 42 false l0), (V.str s1), V.bot, V.bot, V.bot, V.bot, (V.str s2), (V.int IntKind.i64 i3), V.bot, V.bot, V.bot, V.bot, V.bot, V.bot, V.bot, V.bot, V.bot, V.bot, V.bot, V.bot, V.bot, V.bot, V.bot, V.bot, V.bot, V.bot, V.bot, V.bot, V.bot, V.bot, V.bot, V.bot, V.bot, V.bot, V.bot, V.bot, V.bot, V.bot, V.bot, V.bot, V.bot, V.bot, V.bot, V.bot, V.bot, V.bot, V.bot], []⟩
theorem S40_0 (call : FuncId → Fun) (icall : ICall (V × List Ob)) (again : List It → St → Option (V × List Ob)) (a0 : List V) (a1 : List UInt8) (l0 : List V) (s1 : List UInt8) (s2 : List UInt8) (i3 : Int) :
    runM cfg call icall (slotsOf Tryd.f40.results.toList) (List.length (([] : List Ob) : List Ob)) again (finV cfg Tryd.f40 (finish cfg Tryd.f40 40 (List.map OSh.of (([] : List Ob) : List Ob)))) depth (tdOf Tryd.f40 0) (K40_0 l0 s1 s2 i3) = T40_0 call (fun l0 s1 s2 i3 => again (tdOf Tryd.f40 0) (K40_0 l0 s1 s2 i3)) l0 s1 s2 i3 := by kernel_rfl
theorem E40 (call : FuncId → Fun) (icall : ICall (V × List Ob)) (again : List It → St → Option (V × List Ob)) (a0 : List V) (a1 : List UInt8) :
    (envK [V.lst 42 false a0, V.str a1] Tryd.f40.ntmps fun env => runM cfg call icall (slotsOf Tryd.f40.results.toList) (List.length (([] : List Ob) : List Ob)) again (finV cfg Tryd.f40 (finish cfg Tryd.f40 40 (List.map OSh.of (([] : List Ob) : List Ob)))) depth [.code (codeOf Tryd.f40)] ⟨env, ([] : List Ob)⟩) = T40 call (fun l0 s1 s2 i3 => again (tdOf Tryd.f40 0) (K40_0 l0 s1 s2 i3)) a0 a1 := by kernel_rfl
def L40 (call : FuncId → Fun) : Nat → (List V → List UInt8 → List UInt8 → Int → Option (V × List Ob))
  | 0 => fun _ _ _ _ => none
  | n + 1 => T40_0 call (L40 call n)
theorem R40 (call : FuncId → Fun) (icall : ICall (V × List Ob)) (a0 : List V) (a1 : List UInt8) : ∀ n, (∀ (l0 : List V) (s1 : List UInt8) (s2 : List UInt8) (i3 : Int), Go.Ev.runN cfg call icall (slotsOf Tryd.f40.results.toList) (List.length (([] : List Ob) : List Ob)) (finV cfg Tryd.f40 (finish cfg Tryd.f40 40 (List.map OSh.of (([] : List Ob) : List Ob)))) n (tdOf Tryd.f40 0) (K40_0 l0 s1 s2 i3) = (L40 call n) l0 s1 s2 i3)
  | 0 => fun l0 s1 s2 i3 => rfl
  | n + 1 => by
    have ih := R40 call icall a0 a1 n
    exact fun l0 s1 s2 i3 => (S40_0 call icall (Go.Ev.runN cfg call icall (slotsOf Tryd.f40.results.toList) (List.length (([] : List Ob) : List Ob)) (finV cfg Tryd.f40 (finish cfg Tryd.f40 40 (List.map OSh.of (([] : List Ob) : List Ob)))) n) a0 a1 l0 s1 s2 i3).trans (by
      rw [show (fun l0 s1 s2 i3 => Go.Ev.runN cfg call icall (slotsOf Tryd.f40.results.toList) (List.length (([] : List Ob) : List Ob)) (finV cfg Tryd.f40 (finish cfg Tryd.f40 40 (List.map OSh.of (([] : List Ob) : List Ob)))) n (tdOf Tryd.f40 0) (K40_0 l0 s1 s2 i3)) = (L40 call n) from (funext fun l0 => funext fun s1 => funext fun s2 => funext fun i3 => ih l0 s1 s2 i3)]; rfl)
theorem C40 (k : Nat) (a0 : List V) (a1 : List UInt8) : callN cfg (k + 1) 40 [V.lst 42 false a0, V.str a1] ([] : List Ob) = T40 (callN cfg k) (L40 (callN cfg k) k) a0 a1 := by
  have ih := R40 (callN cfg k) (icallN cfg (callN cfg k) 20) a0 a1 k
  refine (show callN cfg (k + 1) 40 [V.lst 42 false a0, V.str a1] ([] : List Ob) = (envK [V.lst 42 false a0, V.str a1] Tryd.f40.ntmps fun env => runM cfg (callN cfg k) (icallN cfg (callN cfg k) 20) (slotsOf Tryd.f40.results.toList) (List.length (([] : List Ob) : List Ob)) (Go.Ev.runN cfg (callN cfg k) (icallN cfg (callN cfg k) 20) (slotsOf Tryd.f40.results.toList) (List.length (([] : List Ob) : List Ob)) (finV cfg Tryd.f40 (finish cfg Tryd.f40 40 (List.map OSh.of (([] : List Ob) : List Ob)))) k) (finV cfg Tryd.f40 (finish cfg Tryd.f40 40 (List.map OSh.of (([] : List Ob) : List Ob)))) depth [.code (codeOf Tryd.f40)] ⟨env, ([] : List Ob)⟩) by kernel_rfl).trans ((E40 _ _ _ a0 a1).trans ?_)
  rw [show (fun l0 s1 s2 i3 => Go.Ev.runN cfg (callN cfg k) (icallN cfg (callN cfg k) 20) (slotsOf Tryd.f40.results.toList) (List.length (([] : List Ob) : List Ob)) (finV cfg Tryd.f40 (finish cfg Tryd.f40 40 (List.map OSh.of (([] : List Ob) : List Ob)))) k (tdOf Tryd.f40 0) (K40_0 l0 s1 s2 i3)) = (L40 (callN cfg k) k) from (funext fun l0 => funext fun s1 => funext fun s2 => funext fun i3 => ih l0 s1 s2 i3)]
theorem M40 (a0 : List V) (a1 : List UInt8) {r : V × List Ob} (h : Evt (fun k n => T40 (callN cfg k) (L40 (callN cfg k) n) a0 a1) r) : Ret 40 [V.lst 42 false a0, V.str a1] ([] : List Ob) r := ret_mk (g := fun k n => T40 (callN cfg k) (L40 (callN cfg k) n) a0 a1) (fun k => C40 k a0 a1) h
theorem N40_0 (l0 : List V) (s1 : List UInt8) (s2 : List UInt8) (i3 : Int) {r : V × List Ob} (h : Evt (fun k n => T40_0 (callN cfg k) (L40 (callN cfg k) n) l0 s1 s2 i3) r) : Evt (fun k n => (L40 (callN cfg k) n) l0 s1 s2 i3) r := evt_step (g' := fun k n => T40_0 (callN cfg k) (L40 (callN cfg k) n) l0 s1 s2 i3) (fun k n => rfl) h

def T49_0 (call : FuncId → Fun) (ag0 : Int → List UInt8 → Int → Option (V × List Ob)) (i0 : Int) (s1 : List UInt8) (p2 : Int) : Option (V × List Ob) :=
  if Int.toNat p2 < List.length s1 then
    if ((((Utf8.decode ⟨List.toArray s1⟩ (Int.toNat p2)).1 : Nat) : Int) == (IntKind.wrap IntKind.i32 i0)) = true then
      some ((V.bool true), [])
    else
      (ag0 (i0) (s1) (((Int.toNat p2 + (Utf8.decode ⟨List.toArray s1⟩ (Int.toNat p2)).2 : Nat) : Int)))
  else
    some ((V.bool false), [])
def T49 (call : FuncId → Fun) (ag0 : Int → List UInt8 → Int → Option (V × List Ob)) (a0 : List UInt8) (a1 : Int) : Option (V × List Ob) :=
  (ag0 (a1) (a0) ((0 : Int)))
def K49_0 (i0 : Int) (s1 : List UInt8) (p2 : Int) : St := ⟨[V.bot, (V.int IntKind.u8 i0), V.bot, V.bot, V.bot, V.bot, V.bot, V.bot, (V.ref 0 0), V.bot, V.bot, V.bot, V.bot, V.bot, V.bot, V.bot], [(Ob.sit s1 p2)]⟩
theorem S49_0 (call : FuncId → Fun) (icall : ICall (V × List Ob)) (again : List It → St → Option (V × List Ob)) (a0 : List UInt8) (a1 : Int) (i0 : Int) (s1 : List UInt8) (p2 : Int) :
    runM cfg call icall (slotsOf Tryd.f49.results.toList) (List.length (([] : List Ob) : List Ob)) again (finV cfg Tryd.f49 (finish cfg Tryd.f49 49 (List.map OSh.of (([] : List Ob) : List Ob)))) depth (tdOf Tryd.f49 0) (K49_0 i0 s1 p2) = T49_0 call (fun i0 s1 p2 => again (tdOf Tryd.f49 0) (K49_0 i0 s1 p2)) i0 s1 p2 := by kernel_rfl
theorem E49 (call : FuncId → Fun) (icall : ICall (V × List Ob)) (again : List It → St → Option (V × List Ob)) (a0 : List UInt8) (a1 : Int) :
    (envK [V.str a0, V.int IntKind.u8 a1] Tryd.f49.ntmps fun env => runM cfg call icall (slotsOf Tryd.f49.results.toList) (List.length (([] : List Ob) : List Ob)) again (finV cfg Tryd.f49 (finish cfg Tryd.f49 49 (List.map OSh.of (([] : List Ob) : List Ob)))) depth [.code (codeOf Tryd.f49)] ⟨env, ([] : List Ob)⟩) = T49 call (fun i0 s1 p2 => again (tdOf Tryd.f49 0) (K49_0 i0 s1 p2)) a0 a1 := by kernel_rfl
def L49 (call : FuncId → Fun) : Nat → (Int → List UInt8 → Int → Option (V × List Ob))
  | 0 => fun _ _ _ => none
  | n + 1 => T49_0 call (L49 call n)
theorem R49 (call : FuncId → Fun) (icall : ICall (V × List Ob)) (a0 : List UInt8) (a1 : Int) : ∀ n, (∀ (i0 : Int) (s1 : List UInt8) (p2 : Int), Go.Ev.runN cfg call icall (slotsOf Tryd.f49.results.toList) (List.length (([] : List Ob) : List Ob)) (finV cfg Tryd.f49 (finish cfg Tryd.f49 49 (List.map OSh.of (([] : List Ob) : List Ob)))) n (tdOf Tryd.f49 0) (K49_0 i0 s1 p2) = (L49 call n) i0 s1 p2)
  | 0 => fun i0 s1 p2 => rfl
  | n + 1 => by
    have ih := R49 call icall a0 a1 n
    exact fun i0 s1 p2 => (S49_0 call icall (Go.Ev.runN cfg call icall (slotsOf Tryd.f49.results.toList) (List.length (([] : List Ob) : List Ob)) (finV cfg Tryd.f49 (finish cfg Tryd.f49 49 (List.map OSh.of (([] : List Ob) : List Ob)))) n) a0 a1 i0 s1 p2).trans (by
      rw [show (fun i0 s1 p2 => Go.Ev.runN cfg call icall (slotsOf Tryd.f49.results.toList) (List.length (([] : List Ob) : List Ob)) (finV cfg Tryd.f49 (finish cfg Tryd.f49 49 (List.map OSh.of (([] : List Ob) : List Ob)))) n (tdOf Tryd.f49 0) (K49_0 i0 s1 p2)) = (L49 call n) from (funext fun i0 => funext fun s1 => funext fun p2 => ih i0 s1 p2)]; rfl)
theorem C49 (k : Nat) (a0 : List UInt8) (a1 : Int) : callN cfg (k + 1) 49 [V.str a0, V.int IntKind.u8 a1] ([] : List Ob) = T49 (callN cfg k) (L49 (callN cfg k) k) a0 a1 := by
  have ih := R49 (callN cfg k) (icallN cfg (callN cfg k) 20) a0 a1 k
  refine (show callN cfg (k + 1) 49 [V.str a0, V.int IntKind.u8 a1] ([] : List Ob) = (envK [V.str a0, V.int IntKind.u8 a1] Tryd.f49.ntmps fun env => runM cfg (callN cfg k) (icallN cfg (callN cfg k) 20) (slotsOf Tryd.f49.results.toList) (List.length (([] : List Ob) : List Ob)) (Go.Ev.runN cfg (callN cfg k) (icallN cfg (callN cfg k) 20) (slotsOf Tryd.f49.results.toList) (List.length (([] : List Ob) : List Ob)) (finV cfg Tryd.f49 (finish cfg Tryd.f49 49 (List.map OSh.of (([] : List Ob) : List Ob)))) k) (finV cfg Tryd.f49 (finish cfg Tryd.f49 49 (List.map OSh.of (([] : List Ob) : List Ob)))) depth [.code (codeOf Tryd.f49)] ⟨env, ([] : List Ob)⟩) by kernel_rfl).trans ((E49 _ _ _ a0 a1).trans ?_)
  rw [show (fun i0 s1 p2 => Go.Ev.runN cfg (callN cfg k) (icallN cfg (callN cfg k) 20) (slotsOf Tryd.f49.results.toList) (List.length (([] : List Ob) : List Ob)) (finV cfg Tryd.f49 (finish cfg Tryd.f49 49 (List.map OSh.of (([] : List Ob) : List Ob)))) k (tdOf Tryd.f49 0) (K49_0 i0 s1 p2)) = (L49 (callN cfg k) k) from (funext fun i0 => funext fun s1 => funext fun p2 => ih i0 s1 p2)]
theorem M49 (a0 : List UInt8) (a1 : Int) {r : V × List Ob} (h : Evt (fun k n => T49 (callN cfg k) (L49 (callN cfg k) n) a0 a1) r) : Ret 49 [V.str a0, V.int IntKind.u8 a1] ([] : List Ob) r := ret_mk (g := fun k n => T49 (callN cfg k) (L49 (callN cfg k) n) a0 a1) (fun k => C49 k a0 a1) h
theorem N49_0 (i0 : Int) (s1 : List UInt8) (p2 : Int) {r : V × List Ob} (h : Evt (fun k n => T49_0 (callN cfg k) (L49 (callN cfg k) n) i0 s1 p2) r) : Evt (fun k n => (L49 (callN cfg k) n) i0 s1 p2) r := evt_step (g' := fun k n => T49_0 (callN cfg k) (L49 (callN cfg k) n) i0 s1 p2) (fun k n => rfl) h

def T50_0 (call : FuncId → Fun) (ag0 : List V → Int → List UInt8 → Option (V × List Ob)) (l0 : List V) (i1 : Int) (s2 : List UInt8) : Option (V × List Ob) :=
  if (decide (i1 < ((List.length s2 : Nat) : Int))) = true then
    chk (decide (0 ≤ i1)) (chk (decide (i1 < ((List.length s2 : Nat) : Int))) (if (((UInt8.toNat (List.getD s2 (Int.toNat i1) 0) : Nat) : Int) == (34 : Int)) = true then
      chk (decide (0 ≤ (IntKind.wrap IntKind.i64 (i1 + (1 : Int))))) (chk (decide ((IntKind.wrap IntKind.i64 (i1 + (1 : Int))) ≤ ((List.length s2 : Nat) : Int))) (some ((V.tup [(V.str (bytesOf l0)), (V.bool true)]), [(Ob.cells [(V.str (List.drop (Int.toNat (IntKind.wrap IntKind.i64 (i1 + (1 : Int)))) s2))])])))
    else
      if (((UInt8.toNat (List.getD s2 (Int.toNat i1) 0) : Nat) : Int) == (92 : Int)) = true then
        if (decide ((IntKind.wrap IntKind.i64 (i1 + (1 : Int))) < ((List.length s2 : Nat) : Int))) = true then
          chk (decide (0 ≤ (IntKind.wrap IntKind.i64 (i1 + (1 : Int))))) (chk (decide ((IntKind.wrap IntKind.i64 (i1 + (1 : Int))) < ((List.length s2 : Nat) : Int))) (chk (appOk l0 [(V.int IntKind.u8 ((UInt8.toNat (List.getD s2 (Int.toNat (IntKind.wrap IntKind.i64 (i1 + (1 : Int)))) 0) : Nat) : Int))] 2) ((ag0 ((l0 ++ [(V.int IntKind.u8 ((UInt8.toNat (List.getD s2 (Int.toNat (IntKind.wrap IntKind.i64 (i1 + (1 : Int)))) 0) : Nat) : Int))])) ((IntKind.wrap IntKind.i64 ((IntKind.wrap IntKind.i64 (i1 + (1 : Int))) + (1 : Int)))) (s2)))))
        else
          (ag0 (l0) ((IntKind.wrap IntKind.i64 ((IntKind.wrap IntKind.i64 (i1 + (1 : Int))) + (1 : Int)))) (s2))
      else
        chk (appOk l0 [(V.int IntKind.u8 ((UInt8.toNat (List.getD s2 (Int.toNat i1) 0) : Nat) : Int))] 2) ((ag0 ((l0 ++ [(V.int IntKind.u8 ((UInt8.toNat (List.getD s2 (Int.toNat i1) 0) : Nat) : Int))])) ((IntKind.wrap IntKind.i64 (i1 + (1 : Int)))) (s2)))))
  else
    some ((V.tup [(V.str []), (V.bool false)]), [(Ob.cells [(V.str s2)])])
def T50 (call : FuncId → Fun) (ag0 : List V → Int → List UInt8 → Option (V × List Ob)) (a0 : List UInt8) : Option (V × List Ob) :=
  (ag0 ([]) ((1 : Int)) (a0))
def K50_0 (l0 : List V) (i1 : Int) (s2 : List UInt8) : St := ⟨[V.bot, (V.ref 1 0), V.bot, V.bot, (V.lst 5 true l0), (V.int IntKind.i64 i1), V.bot, V.bot, V.bot, V.bot, V.bot, V.bot, V.bot, V.bot, V.bot, V.bot, V.bot, V.bot, V.bot, V.bot, V.bot, V.bot, V.bot, V.bot, V.bot, V.bot, V.bot, V.bot, V.bot, V.bot, V.bot, V.bot, V.bot, V.bot, V.bot, V.bot, V.bot, V.bot, V.bot, V.bot, V.bot, V.bot, V.bot, V.bot, V.bot, V.bot, V.bot, V.bot, V.bot, V.bot, V.bot, V.bot, V.bot, V.bot, V.bot, V.bot, V.bot, V.bot, V.bot, V.bot, V.bot, V.bot, V.bot, V.bot, V.bot, V.bot, V.bot], [(Ob.cells [(V.str s2)]), (Ob.cells [(V.ref 0 0)])]⟩
theorem S50_0 (call : FuncId → Fun) (icall : ICall (V × List Ob)) (again : List It → St → Option (V × List Ob)) (a0 : List UInt8) (l0 : List V) (i1 : Int) (s2 : List UInt8) :
    runM cfg call icall (slotsOf Tryd.f50.results.toList) (List.length ([Ob.cells [V.str a0]] : List Ob)) again (finV cfg Tryd.f50 (finish cfg Tryd.f50 50 (List.map OSh.of ([Ob.cells [V.str a0]] : List Ob)))) depth (tdOf Tryd.f50 0) (K50_0 l0 i1 s2) = T50_0 call (fun l0 i1 s2 => again (tdOf Tryd.f50 0) (K50_0 l0 i1 s2)) l0 i1 s2 := by kernel_rfl
theorem E50 (call : FuncId → Fun) (icall : ICall (V × List Ob)) (again : List It → St → Option (V × List Ob)) (a0 : List UInt8) :
    (envK [V.agg [V.ref 0 0]] Tryd.f50.ntmps fun env => runM cfg call icall (slotsOf Tryd.f50.results.toList) (List.length ([Ob.cells [V.str a0]] : List Ob)) again (finV cfg Tryd.f50 (finish cfg Tryd.f50 50 (List.map OSh.of ([Ob.cells [V.str a0]] : List Ob)))) depth [.code (codeOf Tryd.f50)] ⟨env, [Ob.cells [V.str a0]]⟩) = T50 call (fun l0 i1 s2 => again (tdOf Tryd.f50 0) (K50_0 l0 i1 s2)) a0 := by kernel_rfl
def L50 (call : FuncId → Fun) : Nat → (List V → Int → List UInt8 → Option (V × List Ob))
  | 0 => fun _ _ _ => none
  | n + 1 => T50_0 call (L50 call n)
theorem R50 (call : FuncId → Fun) (icall : ICall (V × List Ob)) (a0 : List UInt8) : ∀ n, (∀ (l0 : List V) (i1 : Int) (s2 : List UInt8), Go.Ev.runN cfg call icall (slotsOf Tryd.f50.results.toList) (List.length ([Ob.cells [V.str a0]] : List Ob)) (finV cfg Tryd.f50 (finish cfg Tryd.f50 50 (List.map OSh.of ([Ob.cells [V.str a0]] : List Ob)))) n (tdOf Tryd.f50 0) (K50_0 l0 i1 s2) = (L50 call n) l0 i1 s2)
  | 0 => fun l0 i1 s2 => rfl
  | n + 1 => by
    have ih := R50 call icall a0 n
    exact fun l0 i1 s2 => (S50_0 call icall (Go.Ev.runN cfg call icall (slotsOf Tryd.f50.results.toList) (List.length ([Ob.cells [V.str a0]] : List Ob)) (finV cfg Tryd.f50 (finish cfg Tryd.f50 50 (List.map OSh.of ([Ob.cells [V.str a0]] : List Ob)))) n) a0 l0 i1 s2).trans (by
      rw [show (fun l0 i1 s2 => Go.Ev.runN cfg call icall (slotsOf Tryd.f50.results.toList) (List.length ([Ob.cells [V.str a0]] : List Ob)) (finV cfg Tryd.f50 (finish cfg Tryd.f50 50 (List.map OSh.of ([Ob.cells [V.str a0]] : List Ob)))) n (tdOf Tryd.f50 0) (K50_0 l0 i1 s2)) = (L50 call n) from (funext fun l0 => funext fun i1 => funext fun s2 => ih l0 i1 s2)]; rfl)
theorem C50 (k : Nat) (a0 : List UInt8) : callN cfg (k + 1) 50 [V.agg [V.ref 0 0]] [Ob.cells [V.str a0]] = T50 (callN cfg k) (L50 (callN cfg k) k) a0 := by
  have ih := R50 (callN cfg k) (icallN cfg (callN cfg k) 20) a0 k
  refine (show callN cfg (k + 1) 50 [V.agg [V.ref 0 0]] [Ob.cells [V.str a0]] = (envK [V.agg [V.ref 0 0]] Tryd.f50.ntmps fun env => runM cfg (callN cfg k) (icallN cfg (callN cfg k) 20) (slotsOf Tryd.f50.results.toList) (List.length ([Ob.cells [V.str a0]] : List Ob)) (Go.Ev.runN cfg (callN cfg k) (icallN cfg (callN cfg k) 20) (slotsOf Tryd.f50.results.toList) (List.length ([Ob.cells [V.str a0]] : List Ob)) (finV cfg Tryd.f50 (finish cfg Tryd.f50 50 (List.map OSh.of ([Ob.cells [V.str a0]] : List Ob)))) k) (finV cfg Tryd.f50 (finish cfg Tryd.f50 50 (List.map OSh.of ([Ob.cells [V.str a0]] : List Ob)))) depth [.code (codeOf Tryd.f50)] ⟨env, [Ob.cells [V.str a0]]⟩) by kernel_rfl).trans ((E50 _ _ _ a0).trans ?_)
  rw [show (fun l0 i1 s2 => Go.Ev.runN cfg (callN cfg k) (icallN cfg (callN cfg k) 20) (slotsOf Tryd.f50.results.toList) (List.length ([Ob.cells [V.str a0]] : List Ob)) (finV cfg Tryd.f50 (finish cfg Tryd.f50 50 (List.map OSh.of ([Ob.cells [V.str a0]] : List Ob)))) k (tdOf Tryd.f50 0) (K50_0 l0 i1 s2)) = (L50 (callN cfg k) k) from (funext fun l0 => funext fun i1 => funext fun s2 => ih l0 i1 s2)]
theorem M50 (a0 : List UInt8) {r : V × List Ob} (h : Evt (fun k n => T50 (callN cfg k) (L50 (callN cfg k) n) a0) r) : Ret 50 [V.agg [V.ref 0 0]] [Ob.cells [V.str a0]] r := ret_mk (g := fun k n => T50 (callN cfg k) (L50 (callN cfg k) n) a0) (fun k => C50 k a0) h
theorem N50_0 (l0 : List V) (i1 : Int) (s2 : List UInt8) {r : V × List Ob} (h : Evt (fun k n => T50_0 (callN cfg k) (L50 (callN cfg k) n) l0 i1 s2) r) : Evt (fun k n => (L50 (callN cfg k) n) l0 i1 s2) r := evt_step (g' := fun k n => T50_0 (callN cfg k) (L50 (callN cfg k) n) l0 i1 s2) (fun k n => rfl) h

def T52 (call : FuncId → Fun)  (a0 : Int) : Option (V × List Ob) :=
  Option.bind (call 33 [(V.int IntKind.u8 a0)] []) fun p0 =>
  Option.bind (if (decide ((V.getI p0.1) ≥ (48 : Int))) = true then
      some (decide ((V.getI p0.1) ≤ (57 : Int)))
    else
      some false) fun b1 =>
  if b1 = true then
    some ((V.tup [(V.int IntKind.u8 (IntKind.wrap IntKind.u8 ((V.getI p0.1) - (48 : Int)))), (V.bool true)]), [])
  else
    Option.bind (if (decide ((V.getI p0.1) ≥ (97 : Int))) = true then
        some (decide ((V.getI p0.1) ≤ (102 : Int)))
      else
        some false) fun b2 =>
    if b2 = true then
      some ((V.tup [(V.int IntKind.u8 (IntKind.wrap IntKind.u8 ((IntKind.wrap IntKind.u8 ((V.getI p0.1) - (97 : Int))) + (10 : Int)))), (V.bool true)]), [])
    else
      some ((V.tup [(V.int IntKind.u8 (0 : Int)), (V.bool false)]), [])
theorem E52 (call : FuncId → Fun) (icall : ICall (V × List Ob)) (again : List It → St → Option (V × List Ob)) (a0 : Int) :
    (envK [V.int IntKind.u8 a0] Tryd.f52.ntmps fun env => runM cfg call icall (slotsOf Tryd.f52.results.toList) (List.length (([] : List Ob) : List Ob)) again (finV cfg Tryd.f52 (finish cfg Tryd.f52 52 (List.map OSh.of (([] : List Ob) : List Ob)))) depth [.code (codeOf Tryd.f52)] ⟨env, ([] : List Ob)⟩) = T52 call  a0 := by kernel_rfl
theorem C52 (k : Nat) (a0 : Int) : callN cfg (k + 1) 52 [V.int IntKind.u8 a0] ([] : List Ob) = T52 (callN cfg k) a0 :=
  (show callN cfg (k + 1) 52 [V.int IntKind.u8 a0] ([] : List Ob) = (envK [V.int IntKind.u8 a0] Tryd.f52.ntmps fun env => runM cfg (callN cfg k) (icallN cfg (callN cfg k) 20) (slotsOf Tryd.f52.results.toList) (List.length (([] : List Ob) : List Ob)) (Go.Ev.runN cfg (callN cfg k) (icallN cfg (callN cfg k) 20) (slotsOf Tryd.f52.results.toList) (List.length (([] : List Ob) : List Ob)) (finV cfg Tryd.f52 (finish cfg Tryd.f52 52 (List.map OSh.of (([] : List Ob) : List Ob)))) k) (finV cfg Tryd.f52 (finish cfg Tryd.f52 52 (List.map OSh.of (([] : List Ob) : List Ob)))) depth [.code (codeOf Tryd.f52)] ⟨env, ([] : List Ob)⟩) by kernel_rfl).trans (E52 _ _ _ a0)
theorem M52 (a0 : Int) {r : V × List Ob} (h : Evt (fun k n => T52 (callN cfg k)  a0) r) : Ret 52 [V.int IntKind.u8 a0] ([] : List Ob) r := ret_mk (g := fun k n => T52 (callN cfg k)  a0) (fun k => C52 k a0) h

def T54_0 (call : FuncId → Fun) (ag0 : Int → List UInt8 → Bool → Option (V × List Ob)) (i0 : Int) (s1 : List UInt8) (b2 : Bool) : Option (V × List Ob) :=
  if (i0 != (0 : Int)) = true then
    chk ((10 : Int) != 0) (chk (catOk ((Utf8.encode (IntKind.wrap IntKind.i32 (IntKind.wrap IntKind.i64 ((48 : Int) + (if (IntKind.wrap IntKind.i64 ((0 : Int) - (Int.tmod i0 (10 : Int)))) > (Int.tmod i0 (10 : Int)) then (IntKind.wrap IntKind.i64 ((0 : Int) - (Int.tmod i0 (10 : Int)))) else (Int.tmod i0 (10 : Int))))))).data.toList) s1) (chk ((10 : Int) != 0) ((ag0 ((IntKind.wrap IntKind.i64 (Int.tdiv i0 (10 : Int)))) ((((Utf8.encode (IntKind.wrap IntKind.i32 (IntKind.wrap IntKind.i64 ((48 : Int) + (if (IntKind.wrap IntKind.i64 ((0 : Int) - (Int.tmod i0 (10 : Int)))) > (Int.tmod i0 (10 : Int)) then (IntKind.wrap IntKind.i64 ((0 : Int) - (Int.tmod i0 (10 : Int)))) else (Int.tmod i0 (10 : Int))))))).data.toList) ++ s1)) (b2)))))
  else
    if b2 = true then
      chk (catOk [45] s1) (some ((V.str ([45] ++ s1)), []))
    else
      some ((V.str s1), [])
def T54 (call : FuncId → Fun) (ag0 : Int → List UInt8 → Bool → Option (V × List Ob)) (a0 : Int) : Option (V × List Ob) :=
  if (a0 == (0 : Int)) = true then
    some ((V.str [48]), [])
  else
    (ag0 (a0) ([]) ((decide (a0 < (0 : Int)))))
def K54_0 (i0 : Int) (s1 : List UInt8) (b2 : Bool) : St := ⟨[(V.int IntKind.i64 i0), V.bot, V.bot, (V.str s1), (V.bool b2), V.bot, V.bot, V.bot, V.bot, V.bot, V.bot, V.bot, V.bot, V.bot, V.bot, V.bot, V.bot, V.bot, V.bot, V.bot, V.bot, V.bot, V.bot, V.bot, V.bot, V.bot, V.bot, V.bot, V.bot], []⟩
theorem S54_0 (call : FuncId → Fun) (icall : ICall (V × List Ob)) (again : List It → St → Option (V × List Ob)) (a0 : Int) (i0 : Int) (s1 : List UInt8) (b2 : Bool) :
    runM cfg call icall (slotsOf Tryd.f54.results.toList) (List.length (([] : List Ob) : List Ob)) again (finV cfg Tryd.f54 (finish cfg Tryd.f54 54 (List.map OSh.of (([] : List Ob) : List Ob)))) depth (tdOf Tryd.f54 0) (K54_0 i0 s1 b2) = T54_0 call (fun i0 s1 b2 => again (tdOf Tryd.f54 0) (K54_0 i0 s1 b2)) i0 s1 b2 := by kernel_rfl
theorem E54 (call : FuncId → Fun) (icall : ICall (V × List Ob)) (again : List It → St → Option (V × List Ob)) (a0 : Int) :
    (envK [V.int IntKind.i64 a0] Tryd.f54.ntmps fun env => runM cfg call icall (slotsOf Tryd.f54.results.toList) (List.length (([] : List Ob) : List Ob)) again (finV cfg Tryd.f54 (finish cfg Tryd.f54 54 (List.map OSh.of (([] : List Ob) : List Ob)))) depth [.code (codeOf Tryd.f54)] ⟨env, ([] : List Ob)⟩) = T54 call (fun i0 s1 b2 => again (tdOf Tryd.f54 0) (K54_0 i0 s1 b2)) a0 := by kernel_rfl
def L54 (call : FuncId → Fun) : Nat → (Int → List UInt8 → Bool → Option (V × List Ob))
  | 0 => fun _ _ _ => none
  | n + 1 => T54_0 call (L54 call n)
theorem R54 (call : FuncId → Fun) (icall : ICall (V × List Ob)) (a0 : Int) : ∀ n, (∀ (i0 : Int) (s1 : List UInt8) (b2 : Bool), Go.Ev.runN cfg call icall (slotsOf Tryd.f54.results.toList) (List.length (([] : List Ob) : List Ob)) (finV cfg Tryd.f54 (finish cfg Tryd.f54 54 (List.map OSh.of (([] : List Ob) : List Ob)))) n (tdOf Tryd.f54 0) (K54_0 i0 s1 b2) = (L54 call n) i0 s1 b2)
  | 0 => fun i0 s1 b2 => rfl
  | n + 1 => by
    have ih := R54 call icall a0 n
    exact fun i0 s1 b2 => (S54_0 call icall (Go.Ev.runN cfg call icall (slotsOf Tryd.f54.results.toList) (List.length (([] : List Ob) : List Ob)) (finV cfg Tryd.f54 (finish cfg Tryd.f54 54 (List.map OSh.of (([] : List Ob) : List Ob)))) n) a0 i0 s1 b2).trans (by
      rw [show (fun i0 s1 b2 => Go.Ev.runN cfg call icall (slotsOf Tryd.f54.results.toList) (List.length (([] : List Ob) : List Ob)) (finV cfg Tryd.f54 (finish cfg Tryd.f54 54 (List.map OSh.of (([] : List Ob) : List Ob)))) n (tdOf Tryd.f54 0) (K54_0 i0 s1 b2)) = (L54 call n) from (funext fun i0 => funext fun s1 => funext fun b2 => ih i0 s1 b2)]; rfl)
theorem C54 (k : Nat) (a0 : Int) : callN cfg (k + 1) 54 [V.int IntKind.i64 a0] ([] : List Ob) = T54 (callN cfg k) (L54 (callN cfg k) k) a0 := by
  have ih := R54 (callN cfg k) (icallN cfg (callN cfg k) 20) a0 k
  refine (show callN cfg (k + 1) 54 [V.int IntKind.i64 a0] ([] : List Ob) = (envK [V.int IntKind.i64 a0] Tryd.f54.ntmps fun env => runM cfg (callN cfg k) (icallN cfg (callN cfg k) 20) (slotsOf Tryd.f54.results.toList) (List.length (([] : List Ob) : List Ob)) (Go.Ev.runN cfg (callN cfg k) (icallN cfg (callN cfg k) 20) (slotsOf Tryd.f54.results.toList) (List.length (([] : List Ob) : List Ob)) (finV cfg Tryd.f54 (finish cfg Tryd.f54 54 (List.map OSh.of (([] : List Ob) : List Ob)))) k) (finV cfg Tryd.f54 (finish cfg Tryd.f54 54 (List.map OSh.of (([] : List Ob) : List Ob)))) depth [.code (codeOf Tryd.f54)] ⟨env, ([] : List Ob)⟩) by kernel_rfl).trans ((E54 _ _ _ a0).trans ?_)
  rw [show (fun i0 s1 b2 => Go.Ev.runN cfg (callN cfg k) (icallN cfg (callN cfg k) 20) (slotsOf Tryd.f54.results.toList) (List.length (([] : List Ob) : List Ob)) (finV cfg Tryd.f54 (finish cfg Tryd.f54 54 (List.map OSh.of (([] : List Ob) : List Ob)))) k (tdOf Tryd.f54 0) (K54_0 i0 s1 b2)) = (L54 (callN cfg k) k) from (funext fun i0 => funext fun s1 => funext fun b2 => ih i0 s1 b2)]
theorem M54 (a0 : Int) {r : V × List Ob} (h : Evt (fun k n => T54 (callN cfg k) (L54 (callN cfg k) n) a0) r) : Ret 54 [V.int IntKind.i64 a0] ([] : List Ob) r := ret_mk (g := fun k n => T54 (callN cfg k) (L54 (callN cfg k) n) a0) (fun k => C54 k a0) h
theorem N54_0 (i0 : Int) (s1 : List UInt8) (b2 : Bool) {r : V × List Ob} (h : Evt (fun k n => T54_0 (callN cfg k) (L54 (callN cfg k) n) i0 s1 b2) r) : Evt (fun k n => (L54 (callN cfg k) n) i0 s1 b2) r := evt_step (g' := fun k n => T54_0 (callN cfg k) (L54 (callN cfg k) n) i0 s1 b2) (fun k n => rfl) h

end Go.Proofs.YtmhhcoccfojiiaaDoor
