/- What the functions of the seat's program compute, one by one. Written by mkfn.py off the plain reading's own prints; that it is so is shown by the kernel. -/
import Derived.Test.YtmhhcoccfojiiaaDoorEvW
import Derived.Test.YtmhhcoccfojiiaaDoorTac
import Derived.Test.YtmhhcoccfojiiaaDoorGlue
import Derived.Test.YtmhhcoccfojiiaaDoorSay
import Derived.KernelRfl
namespace Go.Proofs.YtmhhcoccfojiiaaDoor
open Go.Ev Go
set_option maxRecDepth 100000

def T3 (call : FuncId → Fun)  (a0 : List UInt8) (a1 : Bool) (a2 : List UInt8) : Option (V × List Ob) :=
  Option.bind (call 7 [] []) fun z0 =>
  if (!(V.getB z0.1)) = true then
    some ((V.bool false), [])
  else
    Option.bind (if (decide (((List.length a0 : Nat) : Int) > (400 : Int))) = false then
        some (decide (((List.length a2 : Nat) : Int) > (100 : Int)))
      else
        some true) fun y1 =>
    if y1 = true then
      some ((V.bool true), [])
    else
      Option.bind (call 8 [(V.str a0), (V.bool a1)] []) fun z2 =>
      Option.bind (call 9 [(V.str a0), (V.bool a1)] []) fun z3 =>
      Option.bind (call 10 [(V.agg [(V.str (V.getS (List.headD (V.cells (List.headD (V.getT z2.1) V.bot)) V.bot))), (V.str (V.getS (List.headD (List.tail (V.cells (List.headD (V.getT z2.1) V.bot))) V.bot))), (V.lst 42 false (V.getL (List.headD (List.tail (List.tail (V.cells (List.headD (V.getT z2.1) V.bot)))) V.bot)))]), (V.str a2)] []) fun z4 =>
      Option.bind (call 11 [(V.agg [(V.str (V.getS (List.headD (V.cells (List.headD (V.getT z3.1) V.bot)) V.bot))), (V.str (V.getS (List.headD (List.tail (V.cells (List.headD (V.getT z3.1) V.bot))) V.bot))), (V.lst 62 false (V.getL (List.headD (List.tail (List.tail (V.cells (List.headD (V.getT z3.1) V.bot)))) V.bot)))]), (V.str a2)] []) fun z5 =>
      if ((V.getB (List.headD (List.tail (V.getT z2.1)) V.bot)) == (V.getB (List.headD (List.tail (V.getT z3.1)) V.bot))) = true then
        Option.bind (call 13 [(V.agg [(V.str (V.getS (List.headD (V.cells (List.headD (V.getT z2.1) V.bot)) V.bot))), (V.str (V.getS (List.headD (List.tail (V.cells (List.headD (V.getT z2.1) V.bot))) V.bot))), (V.lst 42 false (V.getL (List.headD (List.tail (List.tail (V.cells (List.headD (V.getT z2.1) V.bot)))) V.bot)))])] []) fun z6 =>
        Option.bind (call 12 [(V.agg [(V.str (V.getS (List.headD (V.cells z6.1) V.bot))), (V.str (V.getS (List.headD (List.tail (V.cells z6.1)) V.bot))), (V.lst 62 false (V.getL (List.headD (List.tail (List.tail (V.cells z6.1))) V.bot)))]), (V.agg [(V.str (V.getS (List.headD (V.cells (List.headD (V.getT z3.1) V.bot)) V.bot))), (V.str (V.getS (List.headD (List.tail (V.cells (List.headD (V.getT z3.1) V.bot))) V.bot))), (V.lst 62 false (V.getL (List.headD (List.tail (List.tail (V.cells (List.headD (V.getT z3.1) V.bot)))) V.bot)))])] []) fun z7 =>
        if (V.getB z7.1) = true then
          if (sEq (V.getS (List.headD (V.getT z4.1) V.bot)) (V.getS (List.headD (V.getT z5.1) V.bot))) = true then
            if ((V.getB (List.headD (List.tail (V.getT z4.1)) V.bot)) == (V.getB (List.headD (List.tail (V.getT z5.1)) V.bot))) = true then
              Option.bind (call 14 [(V.str a2)] []) fun z8 =>
              Option.bind (call 15 [(V.str a2)] []) fun z9 =>
              some ((V.bool (sEq (V.getS z8.1) (V.getS z9.1))), [])
            else
              some ((V.bool false), [])
          else
            some ((V.bool false), [])
        else
          some ((V.bool false), [])
      else
        some ((V.bool false), [])
theorem E3 (call : FuncId → Fun) (icall : ICall (V × List Ob)) (again : List It → St → Option (V × List Ob)) (a0 : List UInt8) (a1 : Bool) (a2 : List UInt8) :
    (envK [V.str a0, V.bool a1, V.str a2] Tryd.f3.ntmps fun env => runM cfg call icall (slotsOf Tryd.f3.results.toList) (List.length (([] : List Ob) : List Ob)) again (finV cfg Tryd.f3 (finish cfg Tryd.f3 3 (List.map OSh.of (([] : List Ob) : List Ob)))) depth [.code (codeOf Tryd.f3)] ⟨env, ([] : List Ob)⟩) = T3 call  a0 a1 a2 := by kernel_rfl
theorem C3 (k : Nat) (a0 : List UInt8) (a1 : Bool) (a2 : List UInt8) : callN cfg (k + 1) 3 [V.str a0, V.bool a1, V.str a2] ([] : List Ob) = T3 (callN cfg k) a0 a1 a2 :=
  (show callN cfg (k + 1) 3 [V.str a0, V.bool a1, V.str a2] ([] : List Ob) = (envK [V.str a0, V.bool a1, V.str a2] Tryd.f3.ntmps fun env => runM cfg (callN cfg k) (icallN cfg (callN cfg k) 20) (slotsOf Tryd.f3.results.toList) (List.length (([] : List Ob) : List Ob)) (Go.Ev.runN cfg (callN cfg k) (icallN cfg (callN cfg k) 20) (slotsOf Tryd.f3.results.toList) (List.length (([] : List Ob) : List Ob)) (finV cfg Tryd.f3 (finish cfg Tryd.f3 3 (List.map OSh.of (([] : List Ob) : List Ob)))) k) (finV cfg Tryd.f3 (finish cfg Tryd.f3 3 (List.map OSh.of (([] : List Ob) : List Ob)))) depth [.code (codeOf Tryd.f3)] ⟨env, ([] : List Ob)⟩) by kernel_rfl).trans (E3 _ _ _ a0 a1 a2)
theorem M3 (a0 : List UInt8) (a1 : Bool) (a2 : List UInt8) {r : V × List Ob} (h : Evt (fun k n => T3 (callN cfg k)  a0 a1 a2) r) : Ret 3 [V.str a0, V.bool a1, V.str a2] ([] : List Ob) r := ret_mk (g := fun k n => T3 (callN cfg k)  a0 a1 a2) (fun k => C3 k a0 a1 a2) h

def T7 (call : FuncId → Fun)   : Option (V × List Ob) :=
  Option.bind (call 8 [(V.str [116, 101, 120, 116, 47, 112, 108, 97, 105, 110, 59, 32, 99, 104, 97, 114, 115, 101, 116, 61, 34, 97, 32, 98, 34, 59, 32, 120, 42, 49, 61, 99, 59, 32, 120, 42, 48, 42, 61, 39, 39, 37, 52, 49]), (V.bool true)] []) fun p0 =>
  Option.bind (call 10 [(V.agg [(V.str (V.getS (List.headD (V.cells (List.headD (V.getT p0.1) V.bot)) V.bot))), (V.str (V.getS (List.headD (List.tail (V.cells (List.headD (V.getT p0.1) V.bot))) V.bot))), (V.lst 42 false (V.getL (List.headD (List.tail (List.tail (V.cells (List.headD (V.getT p0.1) V.bot)))) V.bot)))]), (V.str [88])] []) fun p1 =>
  Option.bind (call 8 [(V.str [116, 101, 120, 116]), (V.bool true)] []) fun p2 =>
  if (V.getB (List.headD (List.tail (V.getT p0.1)) V.bot)) = true then
    if (sEq (V.getS (List.headD (V.cells (List.headD (V.getT p0.1) V.bot)) V.bot)) [116, 101, 120, 116]) = true then
      if (sEq (V.getS (List.headD (List.tail (V.cells (List.headD (V.getT p0.1) V.bot))) V.bot)) [112, 108, 97, 105, 110]) = true then
        if (((List.length (V.getL (List.headD (List.tail (List.tail (V.cells (List.headD (V.getT p0.1) V.bot)))) V.bot)) : Nat) : Int) == (2 : Int)) = true then
          chk (decide (0 ≤ (0 : Int))) (chk (decide ((0 : Int) < ((List.length (V.getL (List.headD (List.tail (List.tail (V.cells (List.headD (V.getT p0.1) V.bot)))) V.bot)) : Nat) : Int))) (if (sEq (V.getS (List.headD (List.tail (V.cells (List.getD (V.getL (List.headD (List.tail (List.tail (V.cells (List.headD (V.getT p0.1) V.bot)))) V.bot)) (Int.toNat (0 : Int)) V.bot))) V.bot)) [97, 32, 98]) = true then
            if (sEq (V.getS (List.headD (V.getT p1.1) V.bot)) [65, 99]) = true then
              if (V.getB (List.headD (List.tail (V.getT p1.1)) V.bot)) = true then
                if (!(V.getB (List.headD (List.tail (V.getT p2.1)) V.bot))) = true then
                  Option.bind (call 14 [(V.str [97, 34])] []) fun p3 =>
                  some ((V.bool (sEq (V.getS p3.1) [34, 97, 92, 34, 34])), [])
                else
                  some ((V.bool false), [])
              else
                some ((V.bool false), [])
            else
              some ((V.bool false), [])
          else
            some ((V.bool false), [])))
        else
          some ((V.bool false), [])
      else
        some ((V.bool false), [])
    else
      some ((V.bool false), [])
  else
    some ((V.bool false), [])
theorem E7 (call : FuncId → Fun) (icall : ICall (V × List Ob)) (again : List It → St → Option (V × List Ob))  :
    (envK [] Tryd.f7.ntmps fun env => runM cfg call icall (slotsOf Tryd.f7.results.toList) (List.length (([] : List Ob) : List Ob)) again (finV cfg Tryd.f7 (finish cfg Tryd.f7 7 (List.map OSh.of (([] : List Ob) : List Ob)))) depth [.code (codeOf Tryd.f7)] ⟨env, ([] : List Ob)⟩) = T7 call   := by kernel_rfl
theorem C7 (k : Nat)  : callN cfg (k + 1) 7 [] ([] : List Ob) = T7 (callN cfg k)  :=
  (show callN cfg (k + 1) 7 [] ([] : List Ob) = (envK [] Tryd.f7.ntmps fun env => runM cfg (callN cfg k) (icallN cfg (callN cfg k) 20) (slotsOf Tryd.f7.results.toList) (List.length (([] : List Ob) : List Ob)) (Go.Ev.runN cfg (callN cfg k) (icallN cfg (callN cfg k) 20) (slotsOf Tryd.f7.results.toList) (List.length (([] : List Ob) : List Ob)) (finV cfg Tryd.f7 (finish cfg Tryd.f7 7 (List.map OSh.of (([] : List Ob) : List Ob)))) k) (finV cfg Tryd.f7 (finish cfg Tryd.f7 7 (List.map OSh.of (([] : List Ob) : List Ob)))) depth [.code (codeOf Tryd.f7)] ⟨env, ([] : List Ob)⟩) by kernel_rfl).trans (E7 _ _ _ )
theorem M7 {r : V × List Ob} (h : Evt (fun k n => T7 (callN cfg k)  ) r) : Ret 7 [] ([] : List Ob) r := ret_mk (g := fun k n => T7 (callN cfg k)  ) (fun k => C7 k ) h

def T9_0 (call : FuncId → Fun) (ag0 : List V → Int → List UInt8 → List UInt8 → List V → List UInt8 → List UInt8 → List V → Option (V × List Ob)) (ag1 : List V → Int → List UInt8 → Bool → Int → List UInt8 → List UInt8 → List V → List UInt8 → List UInt8 → List V → Option (V × List Ob)) (l0 : List V) (i1 : Int) (s2 : List UInt8) (s3 : List UInt8) (l4 : List V) (s5 : List UInt8) (s6 : List UInt8) (l7 : List V) : Option (V × List Ob) :=
  if (decide (i1 < ((List.length l0 : Nat) : Int))) = true then
    chk (decide (0 ≤ i1)) (chk (decide (i1 < ((List.length l0 : Nat) : Int))) (Option.bind (call 27 [(V.str (V.getS (List.headD (V.cells (List.getD l0 (Int.toNat i1) V.bot)) V.bot)))] []) fun p0 =>
    (ag1 (l0) (i1) ((V.getS p0.1)) (true) ((0 : Int)) (s2) (s3) (l4) (s5) (s6) (l7))))
  else
    some ((V.tup [(V.agg [(V.str s5), (V.str s6), (V.lst 62 false l7)]), (V.bool true)]), [])
def T9_1 (call : FuncId → Fun) (ag0 : List V → Int → List UInt8 → List UInt8 → List V → List UInt8 → List UInt8 → List V → Option (V × List Ob)) (ag1 : List V → Int → List UInt8 → Bool → Int → List UInt8 → List UInt8 → List V → List UInt8 → List UInt8 → List V → Option (V × List Ob)) (l0 : List V) (i1 : Int) (s2 : List UInt8) (b3 : Bool) (i4 : Int) (s5 : List UInt8) (s6 : List UInt8) (l7 : List V) (s8 : List UInt8) (s9 : List UInt8) (l10 : List V) : Option (V × List Ob) :=
  if (decide (i4 < i1)) = true then
    if b3 = true then
      chk (decide (0 ≤ i4)) (chk (decide (i4 < ((List.length l0 : Nat) : Int))) (Option.bind (call 27 [(V.str (V.getS (List.headD (V.cells (List.getD l0 (Int.toNat i4) V.bot)) V.bot)))] []) fun p0 =>
      (ag1 (l0) (i1) (s2) ((!(sEq (V.getS p0.1) s2))) ((IntKind.wrap IntKind.i64 (i4 + (1 : Int)))) (s5) (s6) (l7) (s8) (s9) (l10))))
    else
      (ag1 (l0) (i1) (s2) (false) ((IntKind.wrap IntKind.i64 (i4 + (1 : Int)))) (s5) (s6) (l7) (s8) (s9) (l10))
  else
    Option.bind (if (sEq s2 []) = false then
        some (!b3)
      else
        some true) fun b0 =>
    if b0 = true then
      (ag0 (l0) ((IntKind.wrap IntKind.i64 (i1 + (1 : Int)))) (s5) (s6) (l7) (s8) (s9) (l10))
    else
      Option.bind (call 28 [(V.lst 62 false l0), (V.str s2)] []) fun p1 =>
      if (V.getB (List.headD (List.tail (V.getT p1.1)) V.bot)) = true then
        chk (appOk l10 [(V.agg [(V.str s2), (V.str (V.getS (List.headD (V.getT p1.1) V.bot)))])] 33) ((ag0 (l0) ((IntKind.wrap IntKind.i64 (i1 + (1 : Int)))) (s5) (s6) (l7) (s8) (s9) ((l10 ++ [(V.agg [(V.str s2), (V.str (V.getS (List.headD (V.getT p1.1) V.bot)))])]))))
      else
        (ag0 (l0) ((IntKind.wrap IntKind.i64 (i1 + (1 : Int)))) (s5) (s6) (l7) (s8) (s9) (l10))
def T9 (call : FuncId → Fun) (ag0 : List V → Int → List UInt8 → List UInt8 → List V → List UInt8 → List UInt8 → List V → Option (V × List Ob)) (ag1 : List V → Int → List UInt8 → Bool → Int → List UInt8 → List UInt8 → List V → List UInt8 → List UInt8 → List V → Option (V × List Ob)) (a0 : List UInt8) (a1 : Bool) : Option (V × List Ob) :=
  Option.bind (call 24 [(V.str a0)] []) fun p0 =>
  Option.bind (call 23 [(V.str (V.getS p0.1))] []) fun p1 =>
  Option.bind (call 25 [(V.str (V.getS (List.headD (V.getT p1.1) V.bot)))] []) fun p2 =>
  if (sEq (V.getS (List.headD (V.getT p1.1) V.bot)) []) = true then
    some ((V.tup [(V.agg [(V.str []), (V.str []), (V.lst 62 false [])]), (V.bool false)]), [])
  else
    if a1 = true then
      Option.bind (call 24 [(V.str (V.getS (List.headD (List.tail (V.getT p1.1)) V.bot)))] []) fun p3 =>
      Option.bind (if (sEq (V.getS p3.1) []) = false then
          chk (decide (0 ≤ (0 : Int))) (chk (decide ((0 : Int) < ((List.length (V.getS p3.1) : Nat) : Int))) (some (((UInt8.toNat (List.getD (V.getS p3.1) (Int.toNat (0 : Int)) 0) : Nat) : Int) != (47 : Int))))
        else
          some true) fun b4 =>
      if b4 = true then
        some ((V.tup [(V.agg [(V.str []), (V.str []), (V.lst 62 false [])]), (V.bool false)]), [])
      else
        chk (decide (0 ≤ (1 : Int))) (chk (decide ((1 : Int) ≤ ((List.length (V.getS p3.1) : Nat) : Int))) (Option.bind (call 24 [(V.str (List.drop (Int.toNat (1 : Int)) (V.getS p3.1)))] []) fun p5 =>
        Option.bind (call 23 [(V.str (V.getS p5.1))] []) fun p6 =>
        if (sEq (V.getS (List.headD (V.getT p6.1) V.bot)) []) = true then
          some ((V.tup [(V.agg [(V.str []), (V.str []), (V.lst 62 false [])]), (V.bool false)]), [])
        else
          Option.bind (call 25 [(V.str (V.getS (List.headD (V.getT p6.1) V.bot)))] []) fun p7 =>
          Option.bind (call 26 [(V.str (V.getS (List.headD (List.tail (V.getT p6.1)) V.bot)))] []) fun p8 =>
          (ag0 ((V.getL p8.1)) ((0 : Int)) ([]) ([]) ([]) ((V.getS p2.1)) ((V.getS p7.1)) ([]))))
    else
      Option.bind (call 26 [(V.str (V.getS (List.headD (List.tail (V.getT p1.1)) V.bot)))] []) fun p3 =>
      (ag0 ((V.getL p3.1)) ((0 : Int)) ([]) ([]) ([]) ((V.getS p2.1)) ([]) ([]))
def K9_0 (l0 : List V) (i1 : Int) (s2 : List UInt8) (s3 : List UInt8) (l4 : List V) (s5 : List UInt8) (s6 : List UInt8) (l7 : List V) : St := ⟨[V.bot, V.bot, V.bot, V.bot, (V.ref 0 0), V.bot, V.bot, (V.ref 1 0), V.bot, V.bot, (V.lst 62 false l0), (V.int IntKind.i64 i1), V.bot, V.bot, V.bot, V.bot, V.bot, V.bot, V.bot, V.bot, V.bot, V.bot, V.bot, V.bot, V.bot, V.bot, V.bot, V.bot, V.bot, V.bot, V.bot, V.bot, V.bot, V.bot, V.bot, V.bot, V.bot, V.bot, V.bot, V.bot, V.bot, V.bot, V.bot, V.bot, V.bot, V.bot, V.bot, V.bot, V.bot, V.bot, V.bot, V.bot, V.bot, V.bot, V.bot, V.bot, V.bot, V.bot, V.bot, V.bot, V.bot, V.bot, V.bot, V.bot, V.bot, V.bot, V.bot, V.bot, V.bot, V.bot, V.bot, V.bot, V.bot, V.bot, V.bot, V.bot, V.bot, V.bot, V.bot, V.bot, V.bot, V.bot, V.bot, V.bot, V.bot, V.bot, V.bot, V.bot, V.bot, V.bot, V.bot, V.bot, V.bot, V.bot, V.bot, V.bot, V.bot, V.bot, V.bot, V.bot, V.bot, V.bot, V.bot, V.bot, V.bot, V.bot], [(Ob.cells [(V.str s2), (V.str s3), (V.lst 62 true l4)]), (Ob.cells [(V.str s5), (V.str s6), (V.lst 62 true l7)])]⟩
def K9_1 (l0 : List V) (i1 : Int) (s2 : List UInt8) (b3 : Bool) (i4 : Int) (s5 : List UInt8) (s6 : List UInt8) (l7 : List V) (s8 : List UInt8) (s9 : List UInt8) (l10 : List V) : St := ⟨[V.bot, V.bot, V.bot, V.bot, (V.ref 0 0), V.bot, V.bot, (V.ref 1 0), V.bot, V.bot, (V.lst 62 false l0), (V.int IntKind.i64 i1), (V.str s2), (V.bool b3), (V.int IntKind.i64 i4), V.bot, V.bot, V.bot, V.bot, V.bot, V.bot, V.bot, V.bot, V.bot, V.bot, V.bot, V.bot, V.bot, V.bot, V.bot, V.bot, V.bot, V.bot, V.bot, V.bot, V.bot, V.bot, V.bot, V.bot, V.bot, V.bot, V.bot, V.bot, V.bot, V.bot, V.bot, V.bot, V.bot, V.bot, V.bot, V.bot, V.bot, V.bot, V.bot, V.bot, V.bot, V.bot, V.bot, V.bot, V.bot, V.bot, V.bot, V.bot, V.bot, V.bot, V.bot, V.bot, V.bot, V.bot, V.bot, V.bot, V.bot, V.bot, V.bot, V.bot, V.bot, V.bot, V.bot, V.bot, V.bot, V.bot, V.bot, V.bot, V.bot, V.bot, V.bot, V.bot, V.bot, V.bot, V.bot, V.bot, V.bot, V.bot, V.bot, V.bot, V.bot, V.bot, V.bot, V.bot, V.bot, V.bot, V.bot, V.bot, V.bot, V.bot, V.bot], [(Ob.cells [(V.str s5), (V.str s6), (V.lst 62 true l7)]), (Ob.cells [(V.str s8), (V.str s9), (V.lst 62 true l10)])]⟩
theorem S9_0 (call : FuncId → Fun) (icall : ICall (V × List Ob)) (again : List It → St → Option (V × List Ob)) (a0 : List UInt8) (a1 : Bool) (l0 : List V) (i1 : Int) (s2 : List UInt8) (s3 : List UInt8) (l4 : List V) (s5 : List UInt8) (s6 : List UInt8) (l7 : List V) :
    runM cfg call icall (slotsOf Tryd.f9.results.toList) (List.length (([] : List Ob) : List Ob)) again (finV cfg Tryd.f9 (finish cfg Tryd.f9 9 (List.map OSh.of (([] : List Ob) : List Ob)))) depth (tdOf Tryd.f9 0) (K9_0 l0 i1 s2 s3 l4 s5 s6 l7) = T9_0 call (fun l0 i1 s2 s3 l4 s5 s6 l7 => again (tdOf Tryd.f9 0) (K9_0 l0 i1 s2 s3 l4 s5 s6 l7)) (fun l0 i1 s2 b3 i4 s5 s6 l7 s8 s9 l10 => again (tdOf Tryd.f9 1) (K9_1 l0 i1 s2 b3 i4 s5 s6 l7 s8 s9 l10)) l0 i1 s2 s3 l4 s5 s6 l7 := by kernel_rfl
theorem S9_1 (call : FuncId → Fun) (icall : ICall (V × List Ob)) (again : List It → St → Option (V × List Ob)) (a0 : List UInt8) (a1 : Bool) (l0 : List V) (i1 : Int) (s2 : List UInt8) (b3 : Bool) (i4 : Int) (s5 : List UInt8) (s6 : List UInt8) (l7 : List V) (s8 : List UInt8) (s9 : List UInt8) (l10 : List V) :
    runM cfg call icall (slotsOf Tryd.f9.results.toList) (List.length (([] : List Ob) : List Ob)) again (finV cfg Tryd.f9 (finish cfg Tryd.f9 9 (List.map OSh.of (([] : List Ob) : List Ob)))) depth (tdOf Tryd.f9 1) (K9_1 l0 i1 s2 b3 i4 s5 s6 l7 s8 s9 l10) = T9_1 call (fun l0 i1 s2 s3 l4 s5 s6 l7 => again (tdOf Tryd.f9 0) (K9_0 l0 i1 s2 s3 l4 s5 s6 l7)) (fun l0 i1 s2 b3 i4 s5 s6 l7 s8 s9 l10 => again (tdOf Tryd.f9 1) (K9_1 l0 i1 s2 b3 i4 s5 s6 l7 s8 s9 l10)) l0 i1 s2 b3 i4 s5 s6 l7 s8 s9 l10 := by kernel_rfl
theorem E9 (call : FuncId → Fun) (icall : ICall (V × List Ob)) (again : List It → St → Option (V × List Ob)) (a0 : List UInt8) (a1 : Bool) :
    (envK [V.str a0, V.bool a1] Tryd.f9.ntmps fun env => runM cfg call icall (slotsOf Tryd.f9.results.toList) (List.length (([] : List Ob) : List Ob)) again (finV cfg Tryd.f9 (finish cfg Tryd.f9 9 (List.map OSh.of (([] : List Ob) : List Ob)))) depth [.code (codeOf Tryd.f9)] ⟨env, ([] : List Ob)⟩) = T9 call (fun l0 i1 s2 s3 l4 s5 s6 l7 => again (tdOf Tryd.f9 0) (K9_0 l0 i1 s2 s3 l4 s5 s6 l7)) (fun l0 i1 s2 b3 i4 s5 s6 l7 s8 s9 l10 => again (tdOf Tryd.f9 1) (K9_1 l0 i1 s2 b3 i4 s5 s6 l7 s8 s9 l10)) a0 a1 := by kernel_rfl
def L9 (call : FuncId → Fun) : Nat → (List V → Int → List UInt8 → List UInt8 → List V → List UInt8 → List UInt8 → List V → Option (V × List Ob)) × (List V → Int → List UInt8 → Bool → Int → List UInt8 → List UInt8 → List V → List UInt8 → List UInt8 → List V → Option (V × List Ob))
  | 0 => ⟨fun _ _ _ _ _ _ _ _ => none, fun _ _ _ _ _ _ _ _ _ _ _ => none⟩
  | n + 1 => ⟨T9_0 call (L9 call n).1 (L9 call n).2, T9_1 call (L9 call n).1 (L9 call n).2⟩
theorem R9 (call : FuncId → Fun) (icall : ICall (V × List Ob)) (a0 : List UInt8) (a1 : Bool) : ∀ n, (∀ (l0 : List V) (i1 : Int) (s2 : List UInt8) (s3 : List UInt8) (l4 : List V) (s5 : List UInt8) (s6 : List UInt8) (l7 : List V), Go.Ev.runN cfg call icall (slotsOf Tryd.f9.results.toList) (List.length (([] : List Ob) : List Ob)) (finV cfg Tryd.f9 (finish cfg Tryd.f9 9 (List.map OSh.of (([] : List Ob) : List Ob)))) n (tdOf Tryd.f9 0) (K9_0 l0 i1 s2 s3 l4 s5 s6 l7) = (L9 call n).1 l0 i1 s2 s3 l4 s5 s6 l7) ∧ (∀ (l0 : List V) (i1 : Int) (s2 : List UInt8) (b3 : Bool) (i4 : Int) (s5 : List UInt8) (s6 : List UInt8) (l7 : List V) (s8 : List UInt8) (s9 : List UInt8) (l10 : List V), Go.Ev.runN cfg call icall (slotsOf Tryd.f9.results.toList) (List.length (([] : List Ob) : List Ob)) (finV cfg Tryd.f9 (finish cfg Tryd.f9 9 (List.map OSh.of (([] : List Ob) : List Ob)))) n (tdOf Tryd.f9 1) (K9_1 l0 i1 s2 b3 i4 s5 s6 l7 s8 s9 l10) = (L9 call n).2 l0 i1 s2 b3 i4 s5 s6 l7 s8 s9 l10)
  | 0 => ⟨fun l0 i1 s2 s3 l4 s5 s6 l7 => rfl, fun l0 i1 s2 b3 i4 s5 s6 l7 s8 s9 l10 => rfl⟩
  | n + 1 => by
    have ih := R9 call icall a0 a1 n
    exact ⟨fun l0 i1 s2 s3 l4 s5 s6 l7 => (S9_0 call icall (Go.Ev.runN cfg call icall (slotsOf Tryd.f9.results.toList) (List.length (([] : List Ob) : List Ob)) (finV cfg Tryd.f9 (finish cfg Tryd.f9 9 (List.map OSh.of (([] : List Ob) : List Ob)))) n) a0 a1 l0 i1 s2 s3 l4 s5 s6 l7).trans (by
      rw [show (fun l0 i1 s2 s3 l4 s5 s6 l7 => Go.Ev.runN cfg call icall (slotsOf Tryd.f9.results.toList) (List.length (([] : List Ob) : List Ob)) (finV cfg Tryd.f9 (finish cfg Tryd.f9 9 (List.map OSh.of (([] : List Ob) : List Ob)))) n (tdOf Tryd.f9 0) (K9_0 l0 i1 s2 s3 l4 s5 s6 l7)) = (L9 call n).1 from (funext fun l0 => funext fun i1 => funext fun s2 => funext fun s3 => funext fun l4 => funext fun s5 => funext fun s6 => funext fun l7 => ih.1 l0 i1 s2 s3 l4 s5 s6 l7), show (fun l0 i1 s2 b3 i4 s5 s6 l7 s8 s9 l10 => Go.Ev.runN cfg call icall (slotsOf Tryd.f9.results.toList) (List.length (([] : List Ob) : List Ob)) (finV cfg Tryd.f9 (finish cfg Tryd.f9 9 (List.map OSh.of (([] : List Ob) : List Ob)))) n (tdOf Tryd.f9 1) (K9_1 l0 i1 s2 b3 i4 s5 s6 l7 s8 s9 l10)) = (L9 call n).2 from (funext fun l0 => funext fun i1 => funext fun s2 => funext fun b3 => funext fun i4 => funext fun s5 => funext fun s6 => funext fun l7 => funext fun s8 => funext fun s9 => funext fun l10 => ih.2 l0 i1 s2 b3 i4 s5 s6 l7 s8 s9 l10)]; rfl),
      fun l0 i1 s2 b3 i4 s5 s6 l7 s8 s9 l10 => (S9_1 call icall (Go.Ev.runN cfg call icall (slotsOf Tryd.f9.results.toList) (List.length (([] : List Ob) : List Ob)) (finV cfg Tryd.f9 (finish cfg Tryd.f9 9 (List.map OSh.of (([] : List Ob) : List Ob)))) n) a0 a1 l0 i1 s2 b3 i4 s5 s6 l7 s8 s9 l10).trans (by
      rw [show (fun l0 i1 s2 s3 l4 s5 s6 l7 => Go.Ev.runN cfg call icall (slotsOf Tryd.f9.results.toList) (List.length (([] : List Ob) : List Ob)) (finV cfg Tryd.f9 (finish cfg Tryd.f9 9 (List.map OSh.of (([] : List Ob) : List Ob)))) n (tdOf Tryd.f9 0) (K9_0 l0 i1 s2 s3 l4 s5 s6 l7)) = (L9 call n).1 from (funext fun l0 => funext fun i1 => funext fun s2 => funext fun s3 => funext fun l4 => funext fun s5 => funext fun s6 => funext fun l7 => ih.1 l0 i1 s2 s3 l4 s5 s6 l7), show (fun l0 i1 s2 b3 i4 s5 s6 l7 s8 s9 l10 => Go.Ev.runN cfg call icall (slotsOf Tryd.f9.results.toList) (List.length (([] : List Ob) : List Ob)) (finV cfg Tryd.f9 (finish cfg Tryd.f9 9 (List.map OSh.of (([] : List Ob) : List Ob)))) n (tdOf Tryd.f9 1) (K9_1 l0 i1 s2 b3 i4 s5 s6 l7 s8 s9 l10)) = (L9 call n).2 from (funext fun l0 => funext fun i1 => funext fun s2 => funext fun b3 => funext fun i4 => funext fun s5 => funext fun s6 => funext fun l7 => funext fun s8 => funext fun s9 => funext fun l10 => ih.2 l0 i1 s2 b3 i4 s5 s6 l7 s8 s9 l10)]; rfl)⟩
theorem C9 (k : Nat) (a0 : List UInt8) (a1 : Bool) : callN cfg (k + 1) 9 [V.str a0, V.bool a1] ([] : List Ob) = T9 (callN cfg k) (L9 (callN cfg k) k).1 (L9 (callN cfg k) k).2 a0 a1 := by
  have ih := R9 (callN cfg k) (icallN cfg (callN cfg k) 20) a0 a1 k
  refine (show callN cfg (k + 1) 9 [V.str a0, V.bool a1] ([] : List Ob) = (envK [V.str a0, V.bool a1] Tryd.f9.ntmps fun env => runM cfg (callN cfg k) (icallN cfg (callN cfg k) 20) (slotsOf Tryd.f9.results.toList) (List.length (([] : List Ob) : List Ob)) (Go.Ev.runN cfg (callN cfg k) (icallN cfg (callN cfg k) 20) (slotsOf Tryd.f9.results.toList) (List.length (([] : List Ob) : List Ob)) (finV cfg Tryd.f9 (finish cfg Tryd.f9 9 (List.map OSh.of (([] : List Ob) : List Ob)))) k) (finV cfg Tryd.f9 (finish cfg Tryd.f9 9 (List.map OSh.of (([] : List Ob) : List Ob)))) depth [.code (codeOf Tryd.f9)] ⟨env, ([] : List Ob)⟩) by kernel_rfl).trans ((E9 _ _ _ a0 a1).trans ?_)
  rw [show (fun l0 i1 s2 s3 l4 s5 s6 l7 => Go.Ev.runN cfg (callN cfg k) (icallN cfg (callN cfg k) 20) (slotsOf Tryd.f9.results.toList) (List.length (([] : List Ob) : List Ob)) (finV cfg Tryd.f9 (finish cfg Tryd.f9 9 (List.map OSh.of (([] : List Ob) : List Ob)))) k (tdOf Tryd.f9 0) (K9_0 l0 i1 s2 s3 l4 s5 s6 l7)) = (L9 (callN cfg k) k).1 from (funext fun l0 => funext fun i1 => funext fun s2 => funext fun s3 => funext fun l4 => funext fun s5 => funext fun s6 => funext fun l7 => ih.1 l0 i1 s2 s3 l4 s5 s6 l7), show (fun l0 i1 s2 b3 i4 s5 s6 l7 s8 s9 l10 => Go.Ev.runN cfg (callN cfg k) (icallN cfg (callN cfg k) 20) (slotsOf Tryd.f9.results.toList) (List.length (([] : List Ob) : List Ob)) (finV cfg Tryd.f9 (finish cfg Tryd.f9 9 (List.map OSh.of (([] : List Ob) : List Ob)))) k (tdOf Tryd.f9 1) (K9_1 l0 i1 s2 b3 i4 s5 s6 l7 s8 s9 l10)) = (L9 (callN cfg k) k).2 from (funext fun l0 => funext fun i1 => funext fun s2 => funext fun b3 => funext fun i4 => funext fun s5 => funext fun s6 => funext fun l7 => funext fun s8 => funext fun s9 => funext fun l10 => ih.2 l0 i1 s2 b3 i4 s5 s6 l7 s8 s9 l10)]
theorem M9 (a0 : List UInt8) (a1 : Bool) {r : V × List Ob} (h : Evt (fun k n => T9 (callN cfg k) (L9 (callN cfg k) n).1 (L9 (callN cfg k) n).2 a0 a1) r) : Ret 9 [V.str a0, V.bool a1] ([] : List Ob) r := ret_mk (g := fun k n => T9 (callN cfg k) (L9 (callN cfg k) n).1 (L9 (callN cfg k) n).2 a0 a1) (fun k => C9 k a0 a1) h
theorem N9_0 (l0 : List V) (i1 : Int) (s2 : List UInt8) (s3 : List UInt8) (l4 : List V) (s5 : List UInt8) (s6 : List UInt8) (l7 : List V) {r : V × List Ob} (h : Evt (fun k n => T9_0 (callN cfg k) (L9 (callN cfg k) n).1 (L9 (callN cfg k) n).2 l0 i1 s2 s3 l4 s5 s6 l7) r) : Evt (fun k n => (L9 (callN cfg k) n).1 l0 i1 s2 s3 l4 s5 s6 l7) r := evt_step (g' := fun k n => T9_0 (callN cfg k) (L9 (callN cfg k) n).1 (L9 (callN cfg k) n).2 l0 i1 s2 s3 l4 s5 s6 l7) (fun k n => rfl) h
theorem N9_1 (l0 : List V) (i1 : Int) (s2 : List UInt8) (b3 : Bool) (i4 : Int) (s5 : List UInt8) (s6 : List UInt8) (l7 : List V) (s8 : List UInt8) (s9 : List UInt8) (l10 : List V) {r : V × List Ob} (h : Evt (fun k n => T9_1 (callN cfg k) (L9 (callN cfg k) n).1 (L9 (callN cfg k) n).2 l0 i1 s2 b3 i4 s5 s6 l7 s8 s9 l10) r) : Evt (fun k n => (L9 (callN cfg k) n).2 l0 i1 s2 b3 i4 s5 s6 l7 s8 s9 l10) r := evt_step (g' := fun k n => T9_1 (callN cfg k) (L9 (callN cfg k) n).1 (L9 (callN cfg k) n).2 l0 i1 s2 b3 i4 s5 s6 l7 s8 s9 l10) (fun k n => rfl) h

end Go.Proofs.YtmhhcoccfojiiaaDoor
