/- Lemmas for the claim, merged: the plain reading of the program's functions, its soundness, and what they compute. -/
import Derived.Test.YtemgbdncidgoiaaDoorPkD
import Derived.KernelRfl
set_option linter.all false
set_option linter.unusedVariables false
set_option linter.unusedSimpArgs false
section
namespace Go.Proofs.YtemgbdncidgoiaaDoor
open Go.Ev Go
open List (headD tail getD length drop take)
open V (getI getL getT getS getB)
set_option maxRecDepth 100000
variable (call : FuncId → Fun) (icall : ICall (V × List Ob)) (again : List It → St → Option (V × List Ob))
def T56 (call : FuncId → Fun) (a0 : List V) : Option (V × List Ob) :=
 Option.bind (call 76 [(V.lst 104 false a0), (V.clo (Fn.func 77) [] [])] []) fun z0 =>
 some ((V.int .i64 (getI z0.1)), [])
def A56 (a0 : List V) : List V := [V.lst 104 false a0]
theorem E56 (a0 : List V) : GO 56 Tryd.f56 (A56 a0) [] call icall again = T56 call a0 := by kernel_rfl
theorem C56 (k : Nat) (a0 : List V) : callN cfg (k + 1) 56 (A56 a0) [] = T56 (callN cfg k) a0 :=
 (show callN cfg (k + 1) 56 (A56 a0) [] = GO 56 Tryd.f56 (A56 a0) [] (callN cfg k) (icallN cfg (callN cfg k) 20) (RN 56 Tryd.f56 [] (callN cfg k) (icallN cfg (callN cfg k) 20) k) by kernel_rfl).trans (E56 _ _ _ a0)
theorem M56 (a0 : List V) {r : V × List Ob} (h : Evt (fun k n => T56 (callN cfg k) a0) r) : Ret 56 [V.lst 104 false a0] [] r := ret_mk (g := fun k n => T56 (callN cfg k) a0) (fun k => C56 k a0) h
def T57 (call : FuncId → Fun) (a0 : List V) (a1 : Int) (a2 : Int) (a3 : Int) : Option (V × List Ob) :=
 Option.bind (call 73 [(V.agg [(V.int .i64 a1), (V.int .i64 a2)]), (V.int .i64 ((length a0 : Nat) : Int))] []) fun z0 =>
 if (!(getB z0.1)) = true then
 some ((V.str []), [])
 else
 chk (decide (0 ≤ a2)) (chk (decide (a2 ≤ ((length a0 : Nat) : Int))) (chk (decide (0 ≤ a1)) (chk (decide (a1 ≤ a2)) (some ((V.str (bytesOf (drop (Int.toNat a1) (take (Int.toNat a2) a0)))), [])))))
def A57 (a0 : List V) (a1 : Int) (a2 : Int) (a3 : Int) : List V := [V.lst 5 false a0, V.agg [V.int IntKind.i64 a1, V.int IntKind.i64 a2, V.int IntKind.i64 a3]]
theorem E57 (a0 : List V) (a1 : Int) (a2 : Int) (a3 : Int) : GO 57 Tryd.f57 (A57 a0 a1 a2 a3) [] call icall again = T57 call a0 a1 a2 a3 := by kernel_rfl
theorem C57 (k : Nat) (a0 : List V) (a1 : Int) (a2 : Int) (a3 : Int) : callN cfg (k + 1) 57 (A57 a0 a1 a2 a3) [] = T57 (callN cfg k) a0 a1 a2 a3 :=
 (show callN cfg (k + 1) 57 (A57 a0 a1 a2 a3) [] = GO 57 Tryd.f57 (A57 a0 a1 a2 a3) [] (callN cfg k) (icallN cfg (callN cfg k) 20) (RN 57 Tryd.f57 [] (callN cfg k) (icallN cfg (callN cfg k) 20) k) by kernel_rfl).trans (E57 _ _ _ a0 a1 a2 a3)
theorem M57 (a0 : List V) (a1 : Int) (a2 : Int) (a3 : Int) {r : V × List Ob} (h : Evt (fun k n => T57 (callN cfg k) a0 a1 a2 a3) r) : Ret 57 [V.lst 5 false a0, V.agg [V.int IntKind.i64 a1, V.int IntKind.i64 a2, V.int IntKind.i64 a3]] [] r := ret_mk (g := fun k n => T57 (callN cfg k) a0 a1 a2 a3) (fun k => C57 k a0 a1 a2 a3) h
def T58 (call : FuncId → Fun) (a0 : List UInt8) : Option (V × List Ob) :=
 if (!(sEq a0 [])) = true then
 chk (decide (0 ≤ (0 : Int))) (chk (decide ((0 : Int) < ((length a0 : Nat) : Int))) (Option.bind (call 78 [(V.int .u8 ((UInt8.toNat (getD a0 (Int.toNat (0 : Int)) 0) : Nat) : Int))] []) fun z0 =>
 some ((V.bool (getB z0.1)), [])))
 else
 some ((V.bool false), [])
def A58 (a0 : List UInt8) : List V := [V.str a0]
theorem E58 (a0 : List UInt8) : GO 58 Tryd.f58 (A58 a0) [] call icall again = T58 call a0 := by kernel_rfl
theorem C58 (k : Nat) (a0 : List UInt8) : callN cfg (k + 1) 58 (A58 a0) [] = T58 (callN cfg k) a0 :=
 (show callN cfg (k + 1) 58 (A58 a0) [] = GO 58 Tryd.f58 (A58 a0) [] (callN cfg k) (icallN cfg (callN cfg k) 20) (RN 58 Tryd.f58 [] (callN cfg k) (icallN cfg (callN cfg k) 20) k) by kernel_rfl).trans (E58 _ _ _ a0)
theorem M58 (a0 : List UInt8) {r : V × List Ob} (h : Evt (fun k n => T58 (callN cfg k) a0) r) : Ret 58 [V.str a0] [] r := ret_mk (g := fun k n => T58 (callN cfg k) a0) (fun k => C58 k a0) h
def T59_0 (call : FuncId → Fun) (ag0 : List UInt8 → Int → Int → Option (V × List Ob)) (ag1 : List UInt8 → Int → Int → Int → Int → Option (V × List Ob)) (s0 : List UInt8) (i1 : Int) (i2 : Int) : Option (V × List Ob) :=
 if (decide (i2 > (0 : Int))) = true then
 chk (decide (0 ≤ (IntKind.wrap .i64 (i2 - (1 : Int))))) (chk (decide ((IntKind.wrap .i64 (i2 - (1 : Int))) < ((length s0 : Nat) : Int))) (Option.bind (call 78 [(V.int .u8 ((UInt8.toNat (getD s0 (Int.toNat (IntKind.wrap .i64 (i2 - (1 : Int)))) 0) : Nat) : Int))] []) fun z0 =>
 if (getB z0.1) = true then
 (ag0 (s0) (i1) ((IntKind.wrap .i64 (i2 - (1 : Int)))))
 else
 (ag1 (s0) (i1) (i2) (i2) ((0 : Int)))))
 else
 (ag1 (s0) (i1) (i2) (i2) ((0 : Int)))
def T59_1 (call : FuncId → Fun) (ag0 : List UInt8 → Int → Int → Option (V × List Ob)) (ag1 : List UInt8 → Int → Int → Int → Int → Option (V × List Ob)) (s0 : List UInt8) (i1 : Int) (i2 : Int) (i3 : Int) (i4 : Int) : Option (V × List Ob) :=
 if (decide (i4 < i3)) = true then
 Option.bind (chk (decide (0 ≤ i4)) (chk (decide (i4 < ((length s0 : Nat) : Int))) (if (decide (((UInt8.toNat (getD s0 (Int.toNat i4) 0) : Nat) : Int) < (33 : Int))) = false then
 chk (decide (0 ≤ i4)) (chk (decide (i4 < ((length s0 : Nat) : Int))) (some (decide (((UInt8.toNat (getD s0 (Int.toNat i4) 0) : Nat) : Int) > (126 : Int)))))
 else
 some true))) fun y0 =>
 if y0 = true then
 some ((V.tup [(V.str []), (V.int .i64 0), (V.bool false)]), [])
 else
 (ag1 (s0) (i1) (i2) (i3) ((IntKind.wrap .i64 (i4 + (1 : Int)))))
 else
 chk (decide (0 ≤ i2)) (chk (decide (i2 ≤ ((length s0 : Nat) : Int))) (chk (decide (0 ≤ (0 : Int))) (chk (decide ((0 : Int) ≤ i2)) (some ((V.tup [(V.str (drop (Int.toNat (0 : Int)) (take (Int.toNat i2) s0))), (V.int .i64 (IntKind.wrap .i64 (i1 + (1 : Int)))), (V.bool (decide (i2 > (0 : Int))))]), [])))))
def T59 (call : FuncId → Fun) (ag0 : List UInt8 → Int → Int → Option (V × List Ob)) (ag1 : List UInt8 → Int → Int → Int → Int → Option (V × List Ob)) (a0 : List UInt8) : Option (V × List Ob) :=
 Option.bind (call 79 [(V.str a0), (V.int .u8 58)] []) fun z0 =>
 if (decide ((getI z0.1) < (0 : Int))) = true then
 some ((V.tup [(V.str []), (V.int .i64 0), (V.bool false)]), [])
 else
 (ag0 (a0) ((getI z0.1)) ((getI z0.1)))
def A59 (a0 : List UInt8) : List V := [V.str a0]
def K59_0 (s0 : List UInt8) (i1 : Int) (i2 : Int) : St := ⟨[(V.str s0), V.bot, V.bot, V.bot, V.bot, (V.int IntKind.i64 i1), (V.int IntKind.i64 i2)] ++ List.replicate 39 V.bot, []⟩
def K59_1 (s0 : List UInt8) (i1 : Int) (i2 : Int) (i3 : Int) (i4 : Int) : St := ⟨[(V.str s0), V.bot, V.bot, V.bot, V.bot, (V.int IntKind.i64 i1), (V.int IntKind.i64 i2), V.bot, V.bot, V.bot, V.bot, V.bot, V.bot, V.bot, V.bot, V.bot, V.bot, V.bot, V.bot, V.bot, V.bot, V.bot, V.bot, V.bot, (V.int IntKind.i64 i3), (V.int IntKind.i64 i4)] ++ List.replicate 20 V.bot, []⟩
theorem S59_0 (s0 : List UInt8) (i1 : Int) (i2 : Int) :
 RM 59 Tryd.f59 [] call icall again (tdOf Tryd.f59 0) (K59_0 s0 i1 i2) = T59_0 call (fun s0 i1 i2 => again (tdOf Tryd.f59 0) (K59_0 s0 i1 i2)) (fun s0 i1 i2 i3 i4 => again (tdOf Tryd.f59 1) (K59_1 s0 i1 i2 i3 i4)) s0 i1 i2 := by kernel_rfl
theorem S59_1 (s0 : List UInt8) (i1 : Int) (i2 : Int) (i3 : Int) (i4 : Int) :
 RM 59 Tryd.f59 [] call icall again (tdOf Tryd.f59 1) (K59_1 s0 i1 i2 i3 i4) = T59_1 call (fun s0 i1 i2 => again (tdOf Tryd.f59 0) (K59_0 s0 i1 i2)) (fun s0 i1 i2 i3 i4 => again (tdOf Tryd.f59 1) (K59_1 s0 i1 i2 i3 i4)) s0 i1 i2 i3 i4 := by kernel_rfl
theorem E59 (a0 : List UInt8) : GO 59 Tryd.f59 (A59 a0) [] call icall again = T59 call (fun s0 i1 i2 => again (tdOf Tryd.f59 0) (K59_0 s0 i1 i2)) (fun s0 i1 i2 i3 i4 => again (tdOf Tryd.f59 1) (K59_1 s0 i1 i2 i3 i4)) a0 := by kernel_rfl
def L59 (call : FuncId → Fun) : Nat → (List UInt8 → Int → Int → Option (V × List Ob)) × (List UInt8 → Int → Int → Int → Int → Option (V × List Ob))
 | 0 => ⟨fun _ _ _ => none, fun _ _ _ _ _ => none⟩
 | n + 1 => ⟨T59_0 call (L59 call n).1 (L59 call n).2, T59_1 call (L59 call n).1 (L59 call n).2⟩
theorem R59 (call : FuncId → Fun) (icall : ICall (V × List Ob)) : ∀ n, (∀ (s0 : List UInt8) (i1 : Int) (i2 : Int), RN 59 Tryd.f59 [] call icall n (tdOf Tryd.f59 0) (K59_0 s0 i1 i2) = (L59 call n).1 s0 i1 i2) ∧ (∀ (s0 : List UInt8) (i1 : Int) (i2 : Int) (i3 : Int) (i4 : Int), RN 59 Tryd.f59 [] call icall n (tdOf Tryd.f59 1) (K59_1 s0 i1 i2 i3 i4) = (L59 call n).2 s0 i1 i2 i3 i4)
  | 0 => ⟨fun s0 i1 i2 => rfl, fun s0 i1 i2 i3 i4 => rfl⟩
  | n + 1 => by
    have ih := R59 call icall n
    exact ⟨fun s0 i1 i2 => (S59_0 call icall (RN 59 Tryd.f59 [] call icall n) s0 i1 i2).trans (by rw [show (fun s0 i1 i2 => RN 59 Tryd.f59 [] call icall n (tdOf Tryd.f59 0) (K59_0 s0 i1 i2)) = (L59 call n).1 from (funext fun s0 => funext fun i1 => funext fun i2 => ih.1 s0 i1 i2), show (fun s0 i1 i2 i3 i4 => RN 59 Tryd.f59 [] call icall n (tdOf Tryd.f59 1) (K59_1 s0 i1 i2 i3 i4)) = (L59 call n).2 from (funext fun s0 => funext fun i1 => funext fun i2 => funext fun i3 => funext fun i4 => ih.2 s0 i1 i2 i3 i4)]; rfl),
      fun s0 i1 i2 i3 i4 => (S59_1 call icall (RN 59 Tryd.f59 [] call icall n) s0 i1 i2 i3 i4).trans (by rw [show (fun s0 i1 i2 => RN 59 Tryd.f59 [] call icall n (tdOf Tryd.f59 0) (K59_0 s0 i1 i2)) = (L59 call n).1 from (funext fun s0 => funext fun i1 => funext fun i2 => ih.1 s0 i1 i2), show (fun s0 i1 i2 i3 i4 => RN 59 Tryd.f59 [] call icall n (tdOf Tryd.f59 1) (K59_1 s0 i1 i2 i3 i4)) = (L59 call n).2 from (funext fun s0 => funext fun i1 => funext fun i2 => funext fun i3 => funext fun i4 => ih.2 s0 i1 i2 i3 i4)]; rfl)⟩
theorem C59 (k : Nat) (a0 : List UInt8) : callN cfg (k + 1) 59 (A59 a0) [] = T59 (callN cfg k) (L59 (callN cfg k) k).1 (L59 (callN cfg k) k).2 a0 := by
 have ih := R59 (callN cfg k) (icallN cfg (callN cfg k) 20) k
 refine (show callN cfg (k + 1) 59 (A59 a0) [] = GO 59 Tryd.f59 (A59 a0) [] (callN cfg k) (icallN cfg (callN cfg k) 20) (RN 59 Tryd.f59 [] (callN cfg k) (icallN cfg (callN cfg k) 20) k) by kernel_rfl).trans ((E59 _ _ _ a0).trans ?_)
 rw [show (fun s0 i1 i2 => RN 59 Tryd.f59 [] (callN cfg k) (icallN cfg (callN cfg k) 20) k (tdOf Tryd.f59 0) (K59_0 s0 i1 i2)) = (L59 (callN cfg k) k).1 from (funext fun s0 => funext fun i1 => funext fun i2 => ih.1 s0 i1 i2), show (fun s0 i1 i2 i3 i4 => RN 59 Tryd.f59 [] (callN cfg k) (icallN cfg (callN cfg k) 20) k (tdOf Tryd.f59 1) (K59_1 s0 i1 i2 i3 i4)) = (L59 (callN cfg k) k).2 from (funext fun s0 => funext fun i1 => funext fun i2 => funext fun i3 => funext fun i4 => ih.2 s0 i1 i2 i3 i4)]
theorem M59 (a0 : List UInt8) {r : V × List Ob} (h : Evt (fun k n => T59 (callN cfg k) (L59 (callN cfg k) n).1 (L59 (callN cfg k) n).2 a0) r) : Ret 59 [V.str a0] [] r := ret_mk (g := fun k n => T59 (callN cfg k) (L59 (callN cfg k) n).1 (L59 (callN cfg k) n).2 a0) (fun k => C59 k a0) h
theorem N59_0 (s0 : List UInt8) (i1 : Int) (i2 : Int) {r : V × List Ob} (h : Evt (fun k n => T59_0 (callN cfg k) (L59 (callN cfg k) n).1 (L59 (callN cfg k) n).2 s0 i1 i2) r) : Evt (fun k n => (L59 (callN cfg k) n).1 s0 i1 i2) r := evt_step (fun k n => rfl) h
theorem N59_1 (s0 : List UInt8) (i1 : Int) (i2 : Int) (i3 : Int) (i4 : Int) {r : V × List Ob} (h : Evt (fun k n => T59_1 (callN cfg k) (L59 (callN cfg k) n).1 (L59 (callN cfg k) n).2 s0 i1 i2 i3 i4) r) : Evt (fun k n => (L59 (callN cfg k) n).2 s0 i1 i2 i3 i4) r := evt_step (fun k n => rfl) h
def T73 (call : FuncId → Fun) (a0 : Int) (a1 : Int) (a2 : Int) : Option (V × List Ob) :=
 Option.bind (if (decide (a0 ≥ (0 : Int))) = true then
 if (decide (a0 ≤ a1)) = true then
 some (decide (a1 ≤ a2))
 else
 some false
 else
 some false) fun y0 =>
 some ((V.bool y0), [])
def A73 (a0 : Int) (a1 : Int) (a2 : Int) : List V := [V.agg [V.int IntKind.i64 a0, V.int IntKind.i64 a1], V.int IntKind.i64 a2]
theorem E73 (a0 : Int) (a1 : Int) (a2 : Int) : GO 73 Tryd.f73 (A73 a0 a1 a2) [] call icall again = T73 call a0 a1 a2 := by kernel_rfl
theorem C73 (k : Nat) (a0 : Int) (a1 : Int) (a2 : Int) : callN cfg (k + 1) 73 (A73 a0 a1 a2) [] = T73 (callN cfg k) a0 a1 a2 :=
 (show callN cfg (k + 1) 73 (A73 a0 a1 a2) [] = GO 73 Tryd.f73 (A73 a0 a1 a2) [] (callN cfg k) (icallN cfg (callN cfg k) 20) (RN 73 Tryd.f73 [] (callN cfg k) (icallN cfg (callN cfg k) 20) k) by kernel_rfl).trans (E73 _ _ _ a0 a1 a2)
theorem M73 (a0 : Int) (a1 : Int) (a2 : Int) {r : V × List Ob} (h : Evt (fun k n => T73 (callN cfg k) a0 a1 a2) r) : Ret 73 [V.agg [V.int IntKind.i64 a0, V.int IntKind.i64 a1], V.int IntKind.i64 a2] [] r := ret_mk (g := fun k n => T73 (callN cfg k) a0 a1 a2) (fun k => C73 k a0 a1 a2) h
def T76_0 (call : FuncId → Fun) (ag0 : List V → Int → Int → Option (V × List Ob)) (l0 : List V) (i1 : Int) (i2 : Int) : Option (V × List Ob) :=
 if (decide (i2 < i1)) = true then
 chk (decide (0 ≤ i2)) (chk (decide (i2 < ((length l0 : Nat) : Int))) (Option.bind (call 77 [(V.agg [(V.int .i64 (getI (headD (V.cells (getD l0 (Int.toNat i2) V.bot)) V.bot))), (V.int .i64 (getI (headD (tail (V.cells (getD l0 (Int.toNat i2) V.bot))) V.bot))), (V.int .i64 (getI (headD (tail (tail (V.cells (getD l0 (Int.toNat i2) V.bot)))) V.bot)))])] []) fun z0 =>
 if (getB z0.1) = true then
 some ((V.int .i64 i2), [])
 else
 (ag0 (l0) (i1) ((IntKind.wrap .i64 (i2 + (1 : Int)))))))
 else
 some ((V.int .i64 (-1 : Int)), [])
def T76 (call : FuncId → Fun) (ag0 : List V → Int → Int → Option (V × List Ob)) (a0 : List V) : Option (V × List Ob) :=
 (ag0 (a0) (((length a0 : Nat) : Int)) ((0 : Int)))
def A76 (a0 : List V) : List V := [V.lst 104 false a0, V.clo (Fn.func 77) [] []]
def K76_0 (l0 : List V) (i1 : Int) (i2 : Int) : St := ⟨[(V.lst 104 false l0), (V.clo (Fn.func 77) [] []), V.bot, V.bot, V.bot, V.bot, V.bot, (V.int IntKind.i64 i1), (V.int IntKind.i64 i2)] ++ List.replicate 10 V.bot, []⟩
theorem S76_0 (l0 : List V) (i1 : Int) (i2 : Int) :
 RM 76 Tryd.f76 [] call icall again (tdOf Tryd.f76 0) (K76_0 l0 i1 i2) = T76_0 call (fun l0 i1 i2 => again (tdOf Tryd.f76 0) (K76_0 l0 i1 i2)) l0 i1 i2 := by kernel_rfl
theorem E76 (a0 : List V) : GO 76 Tryd.f76 (A76 a0) [] call icall again = T76 call (fun l0 i1 i2 => again (tdOf Tryd.f76 0) (K76_0 l0 i1 i2)) a0 := by kernel_rfl
def L76 (call : FuncId → Fun) : Nat → (List V → Int → Int → Option (V × List Ob))
 | 0 => fun _ _ _ => none
 | n + 1 => T76_0 call (L76 call n)
theorem R76 (call : FuncId → Fun) (icall : ICall (V × List Ob)) : ∀ n, (∀ (l0 : List V) (i1 : Int) (i2 : Int), RN 76 Tryd.f76 [] call icall n (tdOf Tryd.f76 0) (K76_0 l0 i1 i2) = (L76 call n) l0 i1 i2)
  | 0 => fun l0 i1 i2 => rfl
  | n + 1 => by
    have ih := R76 call icall n
    exact fun l0 i1 i2 => (S76_0 call icall (RN 76 Tryd.f76 [] call icall n) l0 i1 i2).trans (by rw [show (fun l0 i1 i2 => RN 76 Tryd.f76 [] call icall n (tdOf Tryd.f76 0) (K76_0 l0 i1 i2)) = (L76 call n) from (funext fun l0 => funext fun i1 => funext fun i2 => ih l0 i1 i2)]; rfl)
theorem C76 (k : Nat) (a0 : List V) : callN cfg (k + 1) 76 (A76 a0) [] = T76 (callN cfg k) (L76 (callN cfg k) k) a0 := by
 have ih := R76 (callN cfg k) (icallN cfg (callN cfg k) 20) k
 refine (show callN cfg (k + 1) 76 (A76 a0) [] = GO 76 Tryd.f76 (A76 a0) [] (callN cfg k) (icallN cfg (callN cfg k) 20) (RN 76 Tryd.f76 [] (callN cfg k) (icallN cfg (callN cfg k) 20) k) by kernel_rfl).trans ((E76 _ _ _ a0).trans ?_)
 rw [show (fun l0 i1 i2 => RN 76 Tryd.f76 [] (callN cfg k) (icallN cfg (callN cfg k) 20) k (tdOf Tryd.f76 0) (K76_0 l0 i1 i2)) = (L76 (callN cfg k) k) from (funext fun l0 => funext fun i1 => funext fun i2 => ih l0 i1 i2)]
theorem M76 (a0 : List V) {r : V × List Ob} (h : Evt (fun k n => T76 (callN cfg k) (L76 (callN cfg k) n) a0) r) : Ret 76 [V.lst 104 false a0, V.clo (Fn.func 77) [] []] [] r := ret_mk (g := fun k n => T76 (callN cfg k) (L76 (callN cfg k) n) a0) (fun k => C76 k a0) h
theorem N76_0 (l0 : List V) (i1 : Int) (i2 : Int) {r : V × List Ob} (h : Evt (fun k n => T76_0 (callN cfg k) (L76 (callN cfg k) n) l0 i1 i2) r) : Evt (fun k n => (L76 (callN cfg k) n) l0 i1 i2) r := evt_step (fun k n => rfl) h
def T77 (call : FuncId → Fun) (a0 : Int) (a1 : Int) (a2 : Int) : Option (V × List Ob) :=
 some ((V.bool (a0 == a1)), [])
def A77 (a0 : Int) (a1 : Int) (a2 : Int) : List V := [V.agg [V.int IntKind.i64 a0, V.int IntKind.i64 a1, V.int IntKind.i64 a2]]
theorem E77 (a0 : Int) (a1 : Int) (a2 : Int) : GO 77 Tryd.f77 (A77 a0 a1 a2) [] call icall again = T77 call a0 a1 a2 := by kernel_rfl
theorem C77 (k : Nat) (a0 : Int) (a1 : Int) (a2 : Int) : callN cfg (k + 1) 77 (A77 a0 a1 a2) [] = T77 (callN cfg k) a0 a1 a2 :=
 (show callN cfg (k + 1) 77 (A77 a0 a1 a2) [] = GO 77 Tryd.f77 (A77 a0 a1 a2) [] (callN cfg k) (icallN cfg (callN cfg k) 20) (RN 77 Tryd.f77 [] (callN cfg k) (icallN cfg (callN cfg k) 20) k) by kernel_rfl).trans (E77 _ _ _ a0 a1 a2)
theorem M77 (a0 : Int) (a1 : Int) (a2 : Int) {r : V × List Ob} (h : Evt (fun k n => T77 (callN cfg k) a0 a1 a2) r) : Ret 77 [V.agg [V.int IntKind.i64 a0, V.int IntKind.i64 a1, V.int IntKind.i64 a2]] [] r := ret_mk (g := fun k n => T77 (callN cfg k) a0 a1 a2) (fun k => C77 k a0 a1 a2) h
def T88_0 (call : FuncId → Fun) (ag0 : List V → Int → Int → List UInt8 → Option (V × List Ob)) (l0 : List V) (i1 : Int) (i2 : Int) (s3 : List UInt8) : Option (V × List Ob) :=
 if (decide (i2 < i1)) = true then
 chk (decide (0 ≤ i2)) (chk (decide (i2 < ((length l0 : Nat) : Int))) (Option.bind (call 89 [(V.agg [(V.str (getS (headD (V.cells (getD l0 (Int.toNat i2) V.bot)) V.bot))), (V.int .i64 (getI (headD (tail (V.cells (getD l0 (Int.toNat i2) V.bot))) V.bot))), (V.int .i64 (getI (headD (tail (tail (V.cells (getD l0 (Int.toNat i2) V.bot)))) V.bot))), (V.int .i64 (getI (headD (tail (tail (tail (V.cells (getD l0 (Int.toNat i2) V.bot))))) V.bot)))]), (V.ref 0 0)] [(Ob.cells [(V.str s3)])]) fun z0 =>
 if (getB z0.1) = true then
 some ((V.int .i64 i2), [(Ob.cells [(V.str (getS (headD (Ob.getC (headD z0.2 Ob.dead)) V.bot)))])])
 else
 (ag0 (l0) (i1) ((IntKind.wrap .i64 (i2 + (1 : Int)))) ((getS (headD (Ob.getC (headD z0.2 Ob.dead)) V.bot))))))
 else
 some ((V.int .i64 (-1 : Int)), [(Ob.cells [(V.str s3)])])
def T88 (call : FuncId → Fun) (ag0 : List V → Int → Int → List UInt8 → Option (V × List Ob)) (a0 : List V) (a1 : List UInt8) : Option (V × List Ob) :=
 (ag0 (a0) (((length a0 : Nat) : Int)) ((0 : Int)) (a1))
def O88 (a1 : List UInt8) : List Ob := [Ob.cells [V.str a1]]
def A88 (a0 : List V) : List V := [V.lst 109 false a0, V.clo (Fn.func 89) [] [V.ref 0 0]]
def K88_0 (l0 : List V) (i1 : Int) (i2 : Int) (s3 : List UInt8) : St := ⟨[(V.lst 109 false l0), (V.clo (Fn.func 89) [] [(V.ref 0 0)]), V.bot, V.bot, V.bot, V.bot, V.bot, (V.int IntKind.i64 i1), (V.int IntKind.i64 i2)] ++ List.replicate 10 V.bot, [(Ob.cells [(V.str s3)])]⟩
theorem S88_0 (a1 : List UInt8) (l0 : List V) (i1 : Int) (i2 : Int) (s3 : List UInt8) :
 RM 88 Tryd.f88 (O88 a1) call icall again (tdOf Tryd.f88 0) (K88_0 l0 i1 i2 s3) = T88_0 call (fun l0 i1 i2 s3 => again (tdOf Tryd.f88 0) (K88_0 l0 i1 i2 s3)) l0 i1 i2 s3 := by kernel_rfl
theorem E88 (a0 : List V) (a1 : List UInt8) : GO 88 Tryd.f88 (A88 a0) (O88 a1) call icall again = T88 call (fun l0 i1 i2 s3 => again (tdOf Tryd.f88 0) (K88_0 l0 i1 i2 s3)) a0 a1 := by kernel_rfl
def L88 (call : FuncId → Fun) : Nat → (List V → Int → Int → List UInt8 → Option (V × List Ob))
 | 0 => fun _ _ _ _ => none
 | n + 1 => T88_0 call (L88 call n)
theorem R88 (call : FuncId → Fun) (icall : ICall (V × List Ob)) (a1 : List UInt8) : ∀ n, (∀ (l0 : List V) (i1 : Int) (i2 : Int) (s3 : List UInt8), RN 88 Tryd.f88 (O88 a1) call icall n (tdOf Tryd.f88 0) (K88_0 l0 i1 i2 s3) = (L88 call n) l0 i1 i2 s3)
  | 0 => fun l0 i1 i2 s3 => rfl
  | n + 1 => by
    have ih := R88 call icall a1 n
    exact fun l0 i1 i2 s3 => (S88_0 call icall (RN 88 Tryd.f88 (O88 a1) call icall n) a1 l0 i1 i2 s3).trans (by rw [show (fun l0 i1 i2 s3 => RN 88 Tryd.f88 (O88 a1) call icall n (tdOf Tryd.f88 0) (K88_0 l0 i1 i2 s3)) = (L88 call n) from (funext fun l0 => funext fun i1 => funext fun i2 => funext fun s3 => ih l0 i1 i2 s3)]; rfl)
theorem C88 (k : Nat) (a0 : List V) (a1 : List UInt8) : callN cfg (k + 1) 88 (A88 a0) (O88 a1) = T88 (callN cfg k) (L88 (callN cfg k) k) a0 a1 := by
 have ih := R88 (callN cfg k) (icallN cfg (callN cfg k) 20) a1 k
 refine (show callN cfg (k + 1) 88 (A88 a0) (O88 a1) = GO 88 Tryd.f88 (A88 a0) (O88 a1) (callN cfg k) (icallN cfg (callN cfg k) 20) (RN 88 Tryd.f88 (O88 a1) (callN cfg k) (icallN cfg (callN cfg k) 20) k) by kernel_rfl).trans ((E88 _ _ _ a0 a1).trans ?_)
 rw [show (fun l0 i1 i2 s3 => RN 88 Tryd.f88 (O88 a1) (callN cfg k) (icallN cfg (callN cfg k) 20) k (tdOf Tryd.f88 0) (K88_0 l0 i1 i2 s3)) = (L88 (callN cfg k) k) from (funext fun l0 => funext fun i1 => funext fun i2 => funext fun s3 => ih l0 i1 i2 s3)]
theorem M88 (a0 : List V) (a1 : List UInt8) {r : V × List Ob} (h : Evt (fun k n => T88 (callN cfg k) (L88 (callN cfg k) n) a0 a1) r) : Ret 88 [V.lst 109 false a0, V.clo (Fn.func 89) [] [V.ref 0 0]] [Ob.cells [V.str a1]] r := ret_mk (g := fun k n => T88 (callN cfg k) (L88 (callN cfg k) n) a0 a1) (fun k => C88 k a0 a1) h
theorem N88_0 (l0 : List V) (i1 : Int) (i2 : Int) (s3 : List UInt8) {r : V × List Ob} (h : Evt (fun k n => T88_0 (callN cfg k) (L88 (callN cfg k) n) l0 i1 i2 s3) r) : Evt (fun k n => (L88 (callN cfg k) n) l0 i1 i2 s3) r := evt_step (fun k n => rfl) h
def T89 (call : FuncId → Fun) (a0 : List UInt8) (a1 : Int) (a2 : Int) (a3 : Int) (a4 : List UInt8) : Option (V × List Ob) :=
 Option.bind (call 62 [(V.str a0), (V.str a4)] []) fun z0 =>
 some ((V.bool (getB z0.1)), [(Ob.cells [(V.str a4)])])
def O89 (a4 : List UInt8) : List Ob := [Ob.cells [V.str a4]]
def A89 (a0 : List UInt8) (a1 : Int) (a2 : Int) (a3 : Int) : List V := [V.agg [V.str a0, V.int IntKind.i64 a1, V.int IntKind.i64 a2, V.int IntKind.i64 a3], V.ref 0 0]
theorem E89 (a0 : List UInt8) (a1 : Int) (a2 : Int) (a3 : Int) (a4 : List UInt8) : GO 89 Tryd.f89 (A89 a0 a1 a2 a3) (O89 a4) call icall again = T89 call a0 a1 a2 a3 a4 := by kernel_rfl
theorem C89 (k : Nat) (a0 : List UInt8) (a1 : Int) (a2 : Int) (a3 : Int) (a4 : List UInt8) : callN cfg (k + 1) 89 (A89 a0 a1 a2 a3) (O89 a4) = T89 (callN cfg k) a0 a1 a2 a3 a4 :=
 (show callN cfg (k + 1) 89 (A89 a0 a1 a2 a3) (O89 a4) = GO 89 Tryd.f89 (A89 a0 a1 a2 a3) (O89 a4) (callN cfg k) (icallN cfg (callN cfg k) 20) (RN 89 Tryd.f89 (O89 a4) (callN cfg k) (icallN cfg (callN cfg k) 20) k) by kernel_rfl).trans (E89 _ _ _ a0 a1 a2 a3 a4)
theorem M89 (a0 : List UInt8) (a1 : Int) (a2 : Int) (a3 : Int) (a4 : List UInt8) {r : V × List Ob} (h : Evt (fun k n => T89 (callN cfg k) a0 a1 a2 a3 a4) r) : Ret 89 [V.agg [V.str a0, V.int IntKind.i64 a1, V.int IntKind.i64 a2, V.int IntKind.i64 a3], V.ref 0 0] [Ob.cells [V.str a4]] r := ret_mk (g := fun k n => T89 (callN cfg k) a0 a1 a2 a3 a4) (fun k => C89 k a0 a1 a2 a3 a4) h
def T91 (call : FuncId → Fun) (a0 : List V) (a1 : List UInt8) : Option (V × List Ob) :=
 Option.bind (call 108 [(V.ref 0 0)] [(Ob.cells [(V.opt 0 0), (V.lst 5 true a0)])]) fun z0 =>
 chk (appOkS (getL (headD (tail (Ob.getC (headD z0.2 Ob.dead))) V.bot)) a1 2) (some ((V.tup [(V.int .i64 ((length a1 : Nat) : Int)), (V.raw (Value.nilIface))]), [(Ob.cells [(V.opt 0 0), (V.lst 5 true ((getL (headD (tail (Ob.getC (headD z0.2 Ob.dead))) V.bot)) ++ (ofBytes a1)))])]))
def O91 (a0 : List V) : List Ob := [Ob.cells [V.opt 0 0, V.lst 5 true a0]]
def A91 (a1 : List UInt8) : List V := [V.ref 0 0, V.str a1]
theorem E91 (a0 : List V) (a1 : List UInt8) : GO 91 Tryd.f91 (A91 a1) (O91 a0) call icall again = T91 call a0 a1 := by kernel_rfl
theorem C91 (k : Nat) (a0 : List V) (a1 : List UInt8) : callN cfg (k + 1) 91 (A91 a1) (O91 a0) = T91 (callN cfg k) a0 a1 :=
 (show callN cfg (k + 1) 91 (A91 a1) (O91 a0) = GO 91 Tryd.f91 (A91 a1) (O91 a0) (callN cfg k) (icallN cfg (callN cfg k) 20) (RN 91 Tryd.f91 (O91 a0) (callN cfg k) (icallN cfg (callN cfg k) 20) k) by kernel_rfl).trans (E91 _ _ _ a0 a1)
theorem M91 (a0 : List V) (a1 : List UInt8) {r : V × List Ob} (h : Evt (fun k n => T91 (callN cfg k) a0 a1) r) : Ret 91 [V.ref 0 0, V.str a1] [Ob.cells [V.opt 0 0, V.lst 5 true a0]] r := ret_mk (g := fun k n => T91 (callN cfg k) a0 a1) (fun k => C91 k a0 a1) h
def T66_0 (call : FuncId → Fun) (ag0 : List V → List V → Int → Int → List UInt8 → Int → Int → Int → List V → Option (V × List Ob)) (l0 : List V) (l1 : List V) (i2 : Int) (i3 : Int) (s4 : List UInt8) (i5 : Int) (i6 : Int) (i7 : Int) (l8 : List V) : Option (V × List Ob) :=
 if (decide (i3 < i2)) = true then
 chk (decide (0 ≤ i3)) (chk (decide (i3 < ((length l1 : Nat) : Int))) (Option.bind (call 57 [(V.lst 5 false l0), (V.agg [(V.int .i64 (getI (headD (V.cells (getD l1 (Int.toNat i3) V.bot)) V.bot))), (V.int .i64 (getI (headD (tail (V.cells (getD l1 (Int.toNat i3) V.bot))) V.bot))), (V.int .i64 (getI (headD (tail (tail (V.cells (getD l1 (Int.toNat i3) V.bot)))) V.bot)))])] []) fun z0 =>
 Option.bind (call 91 [(V.ref 0 0), (V.str (getS z0.1))] [(Ob.cells [(V.opt 0 0), (V.lst 5 true l8)])]) fun z1 =>
 (ag0 (l0) (l1) (i2) ((IntKind.wrap .i64 (i3 + (1 : Int)))) (s4) (i5) (i6) (i7) ((getL (headD (tail (Ob.getC (headD z1.2 Ob.dead))) V.bot))))))
 else
 Option.bind (call 92 [(V.ref 0 0)] [(Ob.cells [(V.opt 0 0), (V.lst 5 true l8)])]) fun z0 =>
 Option.bind (call 87 [(V.str (getS z0.1))] []) fun z1 =>
 some ((V.str (getS z1.1)), [])
def T66 (call : FuncId → Fun) (ag0 : List V → List V → Int → Int → List UInt8 → Int → Int → Int → List V → Option (V × List Ob)) (a0 : List V) (a1 : List UInt8) (a2 : Int) (a3 : Int) (a4 : Int) : Option (V × List Ob) :=
 Option.bind (call 55 [(V.lst 5 false a0), (V.agg [(V.int .i64 a3), (V.int .i64 a4)])] []) fun z0 =>
 (ag0 (a0) ((getL z0.1)) (((length (getL z0.1) : Nat) : Int)) ((0 : Int)) (a1) (a2) (a3) (a4) ([]))
def A66 (a0 : List V) (a1 : List UInt8) (a2 : Int) (a3 : Int) (a4 : Int) : List V := [V.lst 5 false a0, V.agg [V.str a1, V.int IntKind.i64 a2, V.int IntKind.i64 a3, V.int IntKind.i64 a4]]
def K66_0 (l0 : List V) (l1 : List V) (i2 : Int) (i3 : Int) (s4 : List UInt8) (i5 : Int) (i6 : Int) (i7 : Int) (l8 : List V) : St := ⟨[(V.lst 5 false l0), V.bot, V.bot, V.bot, V.bot, (V.ref 1 0), V.bot, V.bot, V.bot, V.bot, V.bot, V.bot, V.bot, V.bot, (V.lst 104 false l1), (V.int IntKind.i64 i2), (V.int IntKind.i64 i3)] ++ List.replicate 10 V.bot, [(Ob.cells [(V.str s4), (V.int IntKind.i64 i5), (V.int IntKind.i64 i6), (V.int IntKind.i64 i7)]), (Ob.cells [(V.opt 1 0), (V.lst 5 true l8)])]⟩
theorem S66_0 (l0 : List V) (l1 : List V) (i2 : Int) (i3 : Int) (s4 : List UInt8) (i5 : Int) (i6 : Int) (i7 : Int) (l8 : List V) :
 RM 66 Tryd.f66 [] call icall again (tdOf Tryd.f66 0) (K66_0 l0 l1 i2 i3 s4 i5 i6 i7 l8) = T66_0 call (fun l0 l1 i2 i3 s4 i5 i6 i7 l8 => again (tdOf Tryd.f66 0) (K66_0 l0 l1 i2 i3 s4 i5 i6 i7 l8)) l0 l1 i2 i3 s4 i5 i6 i7 l8 := by kernel_rfl
theorem E66 (a0 : List V) (a1 : List UInt8) (a2 : Int) (a3 : Int) (a4 : Int) : GO 66 Tryd.f66 (A66 a0 a1 a2 a3 a4) [] call icall again = T66 call (fun l0 l1 i2 i3 s4 i5 i6 i7 l8 => again (tdOf Tryd.f66 0) (K66_0 l0 l1 i2 i3 s4 i5 i6 i7 l8)) a0 a1 a2 a3 a4 := by kernel_rfl
def L66 (call : FuncId → Fun) : Nat → (List V → List V → Int → Int → List UInt8 → Int → Int → Int → List V → Option (V × List Ob))
 | 0 => fun _ _ _ _ _ _ _ _ _ => none
 | n + 1 => T66_0 call (L66 call n)
theorem R66 (call : FuncId → Fun) (icall : ICall (V × List Ob)) : ∀ n, (∀ (l0 : List V) (l1 : List V) (i2 : Int) (i3 : Int) (s4 : List UInt8) (i5 : Int) (i6 : Int) (i7 : Int) (l8 : List V), RN 66 Tryd.f66 [] call icall n (tdOf Tryd.f66 0) (K66_0 l0 l1 i2 i3 s4 i5 i6 i7 l8) = (L66 call n) l0 l1 i2 i3 s4 i5 i6 i7 l8)
  | 0 => fun l0 l1 i2 i3 s4 i5 i6 i7 l8 => rfl
  | n + 1 => by
    have ih := R66 call icall n
    exact fun l0 l1 i2 i3 s4 i5 i6 i7 l8 => (S66_0 call icall (RN 66 Tryd.f66 [] call icall n) l0 l1 i2 i3 s4 i5 i6 i7 l8).trans (by rw [show (fun l0 l1 i2 i3 s4 i5 i6 i7 l8 => RN 66 Tryd.f66 [] call icall n (tdOf Tryd.f66 0) (K66_0 l0 l1 i2 i3 s4 i5 i6 i7 l8)) = (L66 call n) from (funext fun l0 => funext fun l1 => funext fun i2 => funext fun i3 => funext fun s4 => funext fun i5 => funext fun i6 => funext fun i7 => funext fun l8 => ih l0 l1 i2 i3 s4 i5 i6 i7 l8)]; rfl)
theorem C66 (k : Nat) (a0 : List V) (a1 : List UInt8) (a2 : Int) (a3 : Int) (a4 : Int) : callN cfg (k + 1) 66 (A66 a0 a1 a2 a3 a4) [] = T66 (callN cfg k) (L66 (callN cfg k) k) a0 a1 a2 a3 a4 := by
 have ih := R66 (callN cfg k) (icallN cfg (callN cfg k) 20) k
 refine (show callN cfg (k + 1) 66 (A66 a0 a1 a2 a3 a4) [] = GO 66 Tryd.f66 (A66 a0 a1 a2 a3 a4) [] (callN cfg k) (icallN cfg (callN cfg k) 20) (RN 66 Tryd.f66 [] (callN cfg k) (icallN cfg (callN cfg k) 20) k) by kernel_rfl).trans ((E66 _ _ _ a0 a1 a2 a3 a4).trans ?_)
 rw [show (fun l0 l1 i2 i3 s4 i5 i6 i7 l8 => RN 66 Tryd.f66 [] (callN cfg k) (icallN cfg (callN cfg k) 20) k (tdOf Tryd.f66 0) (K66_0 l0 l1 i2 i3 s4 i5 i6 i7 l8)) = (L66 (callN cfg k) k) from (funext fun l0 => funext fun l1 => funext fun i2 => funext fun i3 => funext fun s4 => funext fun i5 => funext fun i6 => funext fun i7 => funext fun l8 => ih l0 l1 i2 i3 s4 i5 i6 i7 l8)]
theorem M66 (a0 : List V) (a1 : List UInt8) (a2 : Int) (a3 : Int) (a4 : Int) {r : V × List Ob} (h : Evt (fun k n => T66 (callN cfg k) (L66 (callN cfg k) n) a0 a1 a2 a3 a4) r) : Ret 66 [V.lst 5 false a0, V.agg [V.str a1, V.int IntKind.i64 a2, V.int IntKind.i64 a3, V.int IntKind.i64 a4]] [] r := ret_mk (g := fun k n => T66 (callN cfg k) (L66 (callN cfg k) n) a0 a1 a2 a3 a4) (fun k => C66 k a0 a1 a2 a3 a4) h
theorem N66_0 (l0 : List V) (l1 : List V) (i2 : Int) (i3 : Int) (s4 : List UInt8) (i5 : Int) (i6 : Int) (i7 : Int) (l8 : List V) {r : V × List Ob} (h : Evt (fun k n => T66_0 (callN cfg k) (L66 (callN cfg k) n) l0 l1 i2 i3 s4 i5 i6 i7 l8) r) : Evt (fun k n => (L66 (callN cfg k) n) l0 l1 i2 i3 s4 i5 i6 i7 l8) r := evt_step (fun k n => rfl) h
def T64 (call : FuncId → Fun) (a0 : List V) (a1 : List UInt8) : Option (V × List Ob) :=
 Option.bind (call 88 [(V.lst 109 false a0), (V.clo (Fn.func 89) [] [(V.ref 0 0)])] [(Ob.cells [(V.str a1)])]) fun z0 =>
 if (decide ((getI z0.1) < (0 : Int))) = true then
 some ((V.tup [(V.agg [(V.str []), (V.int .i64 0), (V.int .i64 0), (V.int .i64 0)]), (V.bool false)]), [])
 else
 chk (decide (0 ≤ (getI z0.1))) (chk (decide ((getI z0.1) < ((length a0 : Nat) : Int))) (some ((V.tup [(V.agg [(V.str (getS (headD (V.cells (getD a0 (Int.toNat (getI z0.1)) V.bot)) V.bot))), (V.int .i64 (getI (headD (tail (V.cells (getD a0 (Int.toNat (getI z0.1)) V.bot))) V.bot))), (V.int .i64 (getI (headD (tail (tail (V.cells (getD a0 (Int.toNat (getI z0.1)) V.bot)))) V.bot))), (V.int .i64 (getI (headD (tail (tail (tail (V.cells (getD a0 (Int.toNat (getI z0.1)) V.bot))))) V.bot)))]), (V.bool true)]), [])))
def A64 (a0 : List V) (a1 : List UInt8) : List V := [V.lst 109 false a0, V.str a1]
theorem E64 (a0 : List V) (a1 : List UInt8) : GO 64 Tryd.f64 (A64 a0 a1) [] call icall again = T64 call a0 a1 := by kernel_rfl
theorem C64 (k : Nat) (a0 : List V) (a1 : List UInt8) : callN cfg (k + 1) 64 (A64 a0 a1) [] = T64 (callN cfg k) a0 a1 :=
 (show callN cfg (k + 1) 64 (A64 a0 a1) [] = GO 64 Tryd.f64 (A64 a0 a1) [] (callN cfg k) (icallN cfg (callN cfg k) 20) (RN 64 Tryd.f64 [] (callN cfg k) (icallN cfg (callN cfg k) 20) k) by kernel_rfl).trans (E64 _ _ _ a0 a1)
theorem M64 (a0 : List V) (a1 : List UInt8) {r : V × List Ob} (h : Evt (fun k n => T64 (callN cfg k) a0 a1) r) : Ret 64 [V.lst 109 false a0, V.str a1] [] r := ret_mk (g := fun k n => T64 (callN cfg k) a0 a1) (fun k => C64 k a0 a1) h
def T61 (call : FuncId → Fun) (a0 : List V) (a1 : List V) (a2 : List UInt8) : Option (V × List Ob) :=
 Option.bind (call 64 [(V.lst 109 false a1), (V.str a2)] []) fun z0 =>
 if (!(getB (headD (tail (getT z0.1)) V.bot))) = true then
 some ((V.str []), [])
 else
 Option.bind (call 66 [(V.lst 5 false a0), (V.agg [(V.str (getS (headD (V.cells (headD (getT z0.1) V.bot)) V.bot))), (V.int .i64 (getI (headD (tail (V.cells (headD (getT z0.1) V.bot))) V.bot))), (V.int .i64 (getI (headD (tail (tail (V.cells (headD (getT z0.1) V.bot)))) V.bot))), (V.int .i64 (getI (headD (tail (tail (tail (V.cells (headD (getT z0.1) V.bot))))) V.bot)))])] []) fun z1 =>
 some ((V.str (getS z1.1)), [])
def A61 (a0 : List V) (a1 : List V) (a2 : List UInt8) : List V := [V.lst 5 false a0, V.lst 109 false a1, V.str a2]
theorem E61 (a0 : List V) (a1 : List V) (a2 : List UInt8) : GO 61 Tryd.f61 (A61 a0 a1 a2) [] call icall again = T61 call a0 a1 a2 := by kernel_rfl
theorem C61 (k : Nat) (a0 : List V) (a1 : List V) (a2 : List UInt8) : callN cfg (k + 1) 61 (A61 a0 a1 a2) [] = T61 (callN cfg k) a0 a1 a2 :=
 (show callN cfg (k + 1) 61 (A61 a0 a1 a2) [] = GO 61 Tryd.f61 (A61 a0 a1 a2) [] (callN cfg k) (icallN cfg (callN cfg k) 20) (RN 61 Tryd.f61 [] (callN cfg k) (icallN cfg (callN cfg k) 20) k) by kernel_rfl).trans (E61 _ _ _ a0 a1 a2)
theorem M61 (a0 : List V) (a1 : List V) (a2 : List UInt8) {r : V × List Ob} (h : Evt (fun k n => T61 (callN cfg k) a0 a1 a2) r) : Ret 61 [V.lst 5 false a0, V.lst 109 false a1, V.str a2] [] r := ret_mk (g := fun k n => T61 (callN cfg k) a0 a1 a2) (fun k => C61 k a0 a1 a2) h
def T39_0 (call : FuncId → Fun) (ag0 : List V → Int → List V → Bool → List V → Int → Int → Option (V × List Ob)) (l0 : List V) (i1 : Int) (o2 : List V) (b3 : Bool) (l4 : List V) (i5 : Int) (i6 : Int) : Option (V × List Ob) :=
 if (decide (i6 < i5)) = true then
 chk (decide (0 ≤ i6)) (chk (decide (i6 < ((length l4 : Nat) : Int))) (Option.bind (call 57 [(V.lst 5 false l0), (V.agg [(V.int .i64 (getI (headD (V.cells (getD l4 (Int.toNat i6) V.bot)) V.bot))), (V.int .i64 (getI (headD (tail (V.cells (getD l4 (Int.toNat i6) V.bot))) V.bot))), (V.int .i64 (getI (headD (tail (tail (V.cells (getD l4 (Int.toNat i6) V.bot)))) V.bot)))])] []) fun z0 =>
 Option.bind (call 58 [(V.str (getS z0.1))] []) fun z1 =>
 if (getB z1.1) = true then
 if b3 = true then
 chk (decide (0 ≤ (IntKind.wrap .i64 (((length o2 : Nat) : Int) - (1 : Int))))) (chk (decide ((IntKind.wrap .i64 (((length o2 : Nat) : Int) - (1 : Int))) < ((length o2 : Nat) : Int))) ((ag0 (l0) (i1) ((List.set o2 (Int.toNat (IntKind.wrap .i64 (((length o2 : Nat) : Int) - (1 : Int)))) (V.agg [(V.str (getS (headD (V.cells (getD o2 (Int.toNat (IntKind.wrap .i64 (((length o2 : Nat) : Int) - (1 : Int)))) V.bot)) V.bot))), (V.int .i64 (getI (headD (tail (V.cells (getD o2 (Int.toNat (IntKind.wrap .i64 (((length o2 : Nat) : Int) - (1 : Int)))) V.bot))) V.bot))), (V.int .i64 (getI (headD (tail (tail (V.cells (getD o2 (Int.toNat (IntKind.wrap .i64 (((length o2 : Nat) : Int) - (1 : Int)))) V.bot)))) V.bot))), (V.int .i64 (getI (headD (tail (tail (V.cells (getD l4 (Int.toNat i6) V.bot)))) V.bot)))]))) (b3) (l4) (i5) ((IntKind.wrap .i64 (i6 + (1 : Int)))))))
 else
 (ag0 (l0) (i1) (o2) (b3) (l4) (i5) ((IntKind.wrap .i64 (i6 + (1 : Int)))))
 else
 Option.bind (call 59 [(V.str (getS z0.1))] []) fun z2 =>
 if (getB (headD (tail (tail (getT z2.1))) V.bot)) = true then
 chk (appOk o2 [(V.agg [(V.str (getS (headD (getT z2.1) V.bot))), (V.int .i64 (getI (headD (V.cells (getD l4 (Int.toNat i6) V.bot)) V.bot))), (V.int .i64 (IntKind.wrap .i64 ((getI (headD (V.cells (getD l4 (Int.toNat i6) V.bot)) V.bot)) + (getI (headD (tail (getT z2.1)) V.bot))))), (V.int .i64 (getI (headD (tail (tail (V.cells (getD l4 (Int.toNat i6) V.bot)))) V.bot)))])] 41) ((ag0 (l0) (i1) ((o2 ++ [(V.agg [(V.str (getS (headD (getT z2.1) V.bot))), (V.int .i64 (getI (headD (V.cells (getD l4 (Int.toNat i6) V.bot)) V.bot))), (V.int .i64 (IntKind.wrap .i64 ((getI (headD (V.cells (getD l4 (Int.toNat i6) V.bot)) V.bot)) + (getI (headD (tail (getT z2.1)) V.bot))))), (V.int .i64 (getI (headD (tail (tail (V.cells (getD l4 (Int.toNat i6) V.bot)))) V.bot)))])])) ((getB (headD (tail (tail (getT z2.1))) V.bot))) (l4) (i5) ((IntKind.wrap .i64 (i6 + (1 : Int))))))
 else
 (ag0 (l0) (i1) (o2) ((getB (headD (tail (tail (getT z2.1))) V.bot))) (l4) (i5) ((IntKind.wrap .i64 (i6 + (1 : Int)))))))
 else
 some ((V.tup [(V.lst 109 false o2), (V.int .i64 i1)]), [])
def T39 (call : FuncId → Fun) (ag0 : List V → Int → List V → Bool → List V → Int → Int → Option (V × List Ob)) (a0 : List V) (a1 : Int) (a2 : Int) : Option (V × List Ob) :=
 Option.bind (call 55 [(V.lst 5 false a0), (V.agg [(V.int .i64 a1), (V.int .i64 a2)])] []) fun z0 =>
 if (((length (getL z0.1) : Nat) : Int) == (0 : Int)) = true then
 some ((V.tup [(V.lst 109 false []), (V.int .i64 a1)]), [])
 else
 chk (decide (0 ≤ (IntKind.wrap .i64 (((length (getL z0.1) : Nat) : Int) - (1 : Int))))) (chk (decide ((IntKind.wrap .i64 (((length (getL z0.1) : Nat) : Int) - (1 : Int))) < ((length (getL z0.1) : Nat) : Int))) (Option.bind (call 56 [(V.lst 104 false (getL z0.1))] []) fun z1 =>
 if (decide ((getI z1.1) ≥ (0 : Int))) = true then
 chk (decide (0 ≤ (getI z1.1))) (chk (decide ((getI z1.1) < ((length (getL z0.1) : Nat) : Int))) (chk (decide (0 ≤ (getI z1.1))) (chk (decide ((getI z1.1) ≤ ((length (getL z0.1) : Nat) : Int))) (chk (decide (0 ≤ (0 : Int))) (chk (decide ((0 : Int) ≤ (getI z1.1))) ((ag0 (a0) ((getI (headD (tail (tail (V.cells (getD (getL z0.1) (Int.toNat (getI z1.1)) V.bot)))) V.bot))) ([]) (false) ((drop (Int.toNat (0 : Int)) (take (Int.toNat (getI z1.1)) (getL z0.1)))) (((length (drop (Int.toNat (0 : Int)) (take (Int.toNat (getI z1.1)) (getL z0.1))) : Nat) : Int)) ((0 : Int)))))))))
 else
 (ag0 (a0) ((getI (headD (tail (tail (V.cells (getD (getL z0.1) (Int.toNat (IntKind.wrap .i64 (((length (getL z0.1) : Nat) : Int) - (1 : Int)))) V.bot)))) V.bot))) ([]) (false) ((getL z0.1)) (((length (getL z0.1) : Nat) : Int)) ((0 : Int)))))
def A39 (a0 : List V) (a1 : Int) (a2 : Int) : List V := [V.lst 5 false a0, V.agg [V.int IntKind.i64 a1, V.int IntKind.i64 a2]]
def K39_0 (l0 : List V) (i1 : Int) (o2 : List V) (b3 : Bool) (l4 : List V) (i5 : Int) (i6 : Int) : St := ⟨[(V.lst 5 false l0), V.bot, V.bot, V.bot, V.bot, V.bot, V.bot, (V.int IntKind.i64 i1), V.bot, (V.own 109 o2), (V.bool b3), V.bot, V.bot, V.bot, V.bot, V.bot, V.bot, V.bot, V.bot, V.bot, V.bot, V.bot, V.bot, V.bot, V.bot, V.bot, V.bot, V.bot, V.bot, V.bot, V.bot, V.bot, V.bot, V.bot, V.bot, V.bot, V.bot, V.bot, V.bot, V.bot, V.bot, V.bot, V.bot, V.bot, (V.lst 104 false l4), (V.int IntKind.i64 i5), (V.int IntKind.i64 i6)] ++ List.replicate 41 V.bot, []⟩
theorem S39_0 (l0 : List V) (i1 : Int) (o2 : List V) (b3 : Bool) (l4 : List V) (i5 : Int) (i6 : Int) :
 RM 39 Tryd.f39 [] call icall again (tdOf Tryd.f39 0) (K39_0 l0 i1 o2 b3 l4 i5 i6) = T39_0 call (fun l0 i1 o2 b3 l4 i5 i6 => again (tdOf Tryd.f39 0) (K39_0 l0 i1 o2 b3 l4 i5 i6)) l0 i1 o2 b3 l4 i5 i6 := by kernel_rfl
theorem E39 (a0 : List V) (a1 : Int) (a2 : Int) : GO 39 Tryd.f39 (A39 a0 a1 a2) [] call icall again = T39 call (fun l0 i1 o2 b3 l4 i5 i6 => again (tdOf Tryd.f39 0) (K39_0 l0 i1 o2 b3 l4 i5 i6)) a0 a1 a2 := by kernel_rfl
def L39 (call : FuncId → Fun) : Nat → (List V → Int → List V → Bool → List V → Int → Int → Option (V × List Ob))
 | 0 => fun _ _ _ _ _ _ _ => none
 | n + 1 => T39_0 call (L39 call n)
theorem R39 (call : FuncId → Fun) (icall : ICall (V × List Ob)) : ∀ n, (∀ (l0 : List V) (i1 : Int) (o2 : List V) (b3 : Bool) (l4 : List V) (i5 : Int) (i6 : Int), RN 39 Tryd.f39 [] call icall n (tdOf Tryd.f39 0) (K39_0 l0 i1 o2 b3 l4 i5 i6) = (L39 call n) l0 i1 o2 b3 l4 i5 i6)
  | 0 => fun l0 i1 o2 b3 l4 i5 i6 => rfl
  | n + 1 => by
    have ih := R39 call icall n
    exact fun l0 i1 o2 b3 l4 i5 i6 => (S39_0 call icall (RN 39 Tryd.f39 [] call icall n) l0 i1 o2 b3 l4 i5 i6).trans (by rw [show (fun l0 i1 o2 b3 l4 i5 i6 => RN 39 Tryd.f39 [] call icall n (tdOf Tryd.f39 0) (K39_0 l0 i1 o2 b3 l4 i5 i6)) = (L39 call n) from (funext fun l0 => funext fun i1 => funext fun o2 => funext fun b3 => funext fun l4 => funext fun i5 => funext fun i6 => ih l0 i1 o2 b3 l4 i5 i6)]; rfl)
theorem C39 (k : Nat) (a0 : List V) (a1 : Int) (a2 : Int) : callN cfg (k + 1) 39 (A39 a0 a1 a2) [] = T39 (callN cfg k) (L39 (callN cfg k) k) a0 a1 a2 := by
 have ih := R39 (callN cfg k) (icallN cfg (callN cfg k) 20) k
 refine (show callN cfg (k + 1) 39 (A39 a0 a1 a2) [] = GO 39 Tryd.f39 (A39 a0 a1 a2) [] (callN cfg k) (icallN cfg (callN cfg k) 20) (RN 39 Tryd.f39 [] (callN cfg k) (icallN cfg (callN cfg k) 20) k) by kernel_rfl).trans ((E39 _ _ _ a0 a1 a2).trans ?_)
 rw [show (fun l0 i1 o2 b3 l4 i5 i6 => RN 39 Tryd.f39 [] (callN cfg k) (icallN cfg (callN cfg k) 20) k (tdOf Tryd.f39 0) (K39_0 l0 i1 o2 b3 l4 i5 i6)) = (L39 (callN cfg k) k) from (funext fun l0 => funext fun i1 => funext fun o2 => funext fun b3 => funext fun l4 => funext fun i5 => funext fun i6 => ih l0 i1 o2 b3 l4 i5 i6)]
theorem M39 (a0 : List V) (a1 : Int) (a2 : Int) {r : V × List Ob} (h : Evt (fun k n => T39 (callN cfg k) (L39 (callN cfg k) n) a0 a1 a2) r) : Ret 39 [V.lst 5 false a0, V.agg [V.int IntKind.i64 a1, V.int IntKind.i64 a2]] [] r := ret_mk (g := fun k n => T39 (callN cfg k) (L39 (callN cfg k) n) a0 a1 a2) (fun k => C39 k a0 a1 a2) h
theorem N39_0 (l0 : List V) (i1 : Int) (o2 : List V) (b3 : Bool) (l4 : List V) (i5 : Int) (i6 : Int) {r : V × List Ob} (h : Evt (fun k n => T39_0 (callN cfg k) (L39 (callN cfg k) n) l0 i1 o2 b3 l4 i5 i6) r) : Evt (fun k n => (L39 (callN cfg k) n) l0 i1 o2 b3 l4 i5 i6) r := evt_step (fun k n => rfl) h
def T63 (call : FuncId → Fun) (a0 : List UInt8) (a1 : List UInt8) : Option (V × List Ob) :=
 Option.bind (if (decide (((length a0 : Nat) : Int) < (IntKind.wrap .i64 ((2 : Int) + ((length a1 : Nat) : Int))))) = false then
 chk (decide (0 ≤ (IntKind.wrap .i64 ((2 : Int) + ((length a1 : Nat) : Int))))) (chk (decide ((IntKind.wrap .i64 ((2 : Int) + ((length a1 : Nat) : Int))) ≤ ((length a0 : Nat) : Int))) (chk (decide (0 ≤ (0 : Int))) (chk (decide ((0 : Int) ≤ (IntKind.wrap .i64 ((2 : Int) + ((length a1 : Nat) : Int))))) (chk (catOk [45, 45] a1) (some (!(sEq (drop (Int.toNat (0 : Int)) (take (Int.toNat (IntKind.wrap .i64 ((2 : Int) + ((length a1 : Nat) : Int)))) a0)) ([45, 45] ++ a1))))))))
 else
 some true) fun y0 =>
 if y0 = true then
 some ((V.tup [(V.bool false), (V.bool false)]), [])
 else
 chk (decide (0 ≤ (IntKind.wrap .i64 ((2 : Int) + ((length a1 : Nat) : Int))))) (chk (decide ((IntKind.wrap .i64 ((2 : Int) + ((length a1 : Nat) : Int))) ≤ ((length a0 : Nat) : Int))) (Option.bind (call 86 [(V.str (drop (Int.toNat (IntKind.wrap .i64 ((2 : Int) + ((length a1 : Nat) : Int)))) a0))] []) fun z1 =>
 if (getB z1.1) = true then
 some ((V.tup [(V.bool true), (V.bool false)]), [])
 else
 if (decide (((length (drop (Int.toNat (IntKind.wrap .i64 ((2 : Int) + ((length a1 : Nat) : Int)))) a0) : Nat) : Int) ≥ (2 : Int))) = true then
 chk (decide (0 ≤ (2 : Int))) (chk (decide ((2 : Int) ≤ ((length (drop (Int.toNat (IntKind.wrap .i64 ((2 : Int) + ((length a1 : Nat) : Int)))) a0) : Nat) : Int))) (chk (decide (0 ≤ (0 : Int))) (chk (decide ((0 : Int) ≤ (2 : Int))) (if (sEq (drop (Int.toNat (0 : Int)) (take (Int.toNat (2 : Int)) (drop (Int.toNat (IntKind.wrap .i64 ((2 : Int) + ((length a1 : Nat) : Int)))) a0))) [45, 45]) = true then
 chk (decide (0 ≤ (2 : Int))) (chk (decide ((2 : Int) ≤ ((length (drop (Int.toNat (IntKind.wrap .i64 ((2 : Int) + ((length a1 : Nat) : Int)))) a0) : Nat) : Int))) (Option.bind (call 86 [(V.str (drop (Int.toNat (2 : Int)) (drop (Int.toNat (IntKind.wrap .i64 ((2 : Int) + ((length a1 : Nat) : Int)))) a0)))] []) fun z2 =>
 if (getB z2.1) = true then
 some ((V.tup [(V.bool true), (V.bool true)]), [])
 else
 some ((V.tup [(V.bool false), (V.bool false)]), [])))
 else
 some ((V.tup [(V.bool false), (V.bool false)]), [])))))
 else
 some ((V.tup [(V.bool false), (V.bool false)]), [])))
def A63 (a0 : List UInt8) (a1 : List UInt8) : List V := [V.str a0, V.str a1]
theorem E63 (a0 : List UInt8) (a1 : List UInt8) : GO 63 Tryd.f63 (A63 a0 a1) [] call icall again = T63 call a0 a1 := by kernel_rfl
theorem C63 (k : Nat) (a0 : List UInt8) (a1 : List UInt8) : callN cfg (k + 1) 63 (A63 a0 a1) [] = T63 (callN cfg k) a0 a1 :=
 (show callN cfg (k + 1) 63 (A63 a0 a1) [] = GO 63 Tryd.f63 (A63 a0 a1) [] (callN cfg k) (icallN cfg (callN cfg k) 20) (RN 63 Tryd.f63 [] (callN cfg k) (icallN cfg (callN cfg k) 20) k) by kernel_rfl).trans (E63 _ _ _ a0 a1)
theorem M63 (a0 : List UInt8) (a1 : List UInt8) {r : V × List Ob} (h : Evt (fun k n => T63 (callN cfg k) a0 a1) r) : Ret 63 [V.str a0, V.str a1] [] r := ret_mk (g := fun k n => T63 (callN cfg k) a0 a1) (fun k => C63 k a0 a1) h
def T86 (call : FuncId → Fun) (a0 : List UInt8) : Option (V × List Ob) :=
 Option.bind (call 87 [(V.str a0)] []) fun z0 =>
 some ((V.bool (sEq (getS z0.1) [])), [])
def A86 (a0 : List UInt8) : List V := [V.str a0]
theorem E86 (a0 : List UInt8) : GO 86 Tryd.f86 (A86 a0) [] call icall again = T86 call a0 := by kernel_rfl
theorem C86 (k : Nat) (a0 : List UInt8) : callN cfg (k + 1) 86 (A86 a0) [] = T86 (callN cfg k) a0 :=
 (show callN cfg (k + 1) 86 (A86 a0) [] = GO 86 Tryd.f86 (A86 a0) [] (callN cfg k) (icallN cfg (callN cfg k) 20) (RN 86 Tryd.f86 [] (callN cfg k) (icallN cfg (callN cfg k) 20) k) by kernel_rfl).trans (E86 _ _ _ a0)
theorem M86 (a0 : List UInt8) {r : V × List Ob} (h : Evt (fun k n => T86 (callN cfg k) a0) r) : Ret 86 [V.str a0] [] r := ret_mk (g := fun k n => T86 (callN cfg k) a0) (fun k => C86 k a0) h
end Go.Proofs.YtemgbdncidgoiaaDoor
end
section
namespace Go.Proofs.YtemgbdncidgoiaaDoor
open Go.Ev Go
abbrev Ln := Nat × Nat × Nat
def subF (b : Bs) (fr to : Nat) : Bs := (b.take to).drop fr
def lineT (b : Bs) (l : Ln) : Bs := if l.1 ≤ l.2.1 ∧ l.2.1 ≤ b.length then subF b l.1 l.2.1 else []
theorem byteV_ofBytes (b : Bs) : (ofBytes b).all byteV = true := by
  simp only [List.all_eq_true, ofBytes, List.mem_map]
  rintro v ⟨c, _, rfl⟩
  have := c.toNat_lt
  simp [byteV]; omega
theorem ret55 (b : Bs) (hb : b.length ≤ 1000000) (fr to : Int) :
    Ret 55 [.lst 5 false (ofBytes b), .agg [.int .i64 fr, .int .i64 to]] [] (.lst 104 false ((linesOf fr to b).map lnV), []) := by
  refine ret_hand (h := ofF) (by kernel_rfl) ?_
  have h1 := byteV_ofBytes b
  have h2 : (ofBytes b).length < 1099511627776 := by rw [ofBytes_length]; omega
  simp only [ofF, h1, h2, decide_true, Bool.and_self, if_true, bytesOf_ofBytes]
theorem ret73 (a b n : Int) : Ret 73 [.agg [.int .i64 a, .int .i64 b], .int .i64 n] [] (.bool (decide (0 ≤ a ∧ a ≤ b ∧ b ≤ n)), []) := by
  refine M73 a b n ?_
  simp only [T73]
  by_cases h1 : a ≥ 0
  · by_cases h2 : a ≤ b
    · have e : decide (0 ≤ a ∧ a ≤ b ∧ b ≤ n) = decide (b ≤ n) := by simp [h1, h2]
      rw [e]
      simp only [h1, h2, decide_true, if_true, bind_s]
      exact evt_some _
    · have e : decide (0 ≤ a ∧ a ≤ b ∧ b ≤ n) = false := by simp [h2]
      rw [e]
      simp only [h1, h2, decide_true, decide_false, if_true, Bool.false_eq_true, if_false, bind_s]
      exact evt_some _
  · have e : decide (0 ≤ a ∧ a ≤ b ∧ b ≤ n) = false := by simp; omega
    rw [e]
    simp only [h1, decide_false, Bool.false_eq_true, if_false, bind_s]
    exact evt_some _
theorem subB (b : Bs) (fr to : Nat) : bytesOf (List.drop fr (List.take to (ofBytes b))) = subF b fr to := by
  unfold ofBytes subF
  rw [← List.map_take, ← List.map_drop]
  exact bytesOf_ofBytes _
theorem ret57 (b : Bs) (l : Ln) : Ret 57 [.lst 5 false (ofBytes b), lnV l] [] (.str (lineT b l), []) := by
  obtain ⟨p, q, r⟩ := l
  refine M57 (ofBytes b) p q r ?_
  simp only [T57, ofBytes_length]
  refine evt_bind (ret73 p q (b.length : Nat)) ?_
  simp only [V.getB]
  by_cases h : p ≤ q ∧ q ≤ b.length
  · have h1 : (0 : Int) ≤ (p : Int) ∧ (p : Int) ≤ (q : Int) ∧ (q : Int) ≤ (b.length : Int) := by omega
    have e : lineT b (p, q, r) = subF b p q := if_pos h
    simp only [h1, and_self, decide_true, Bool.not_true, Bool.false_eq_true, if_false, chk_t, Int.toNat_natCast, subB, e, chk_p (show (0 : Int) ≤ (q : Int) by omega)]
    exact evt_some _
  · have h1 : ¬ ((0 : Int) ≤ (p : Int) ∧ (p : Int) ≤ (q : Int) ∧ (q : Int) ≤ (b.length : Int)) := by omega
    have e : lineT b (p, q, r) = [] := if_neg h
    simp only [h1, decide_false, Bool.not_false, if_true, e]
    exact evt_some _
def goesF : Bs → Bool
  | [] => false
  | c :: _ => blankB c
theorem ret58 (s : Bs) : Ret 58 [.str s] [] (.bool (goesF s), []) := by
  refine M58 s ?_
  simp only [T58]
  cases s with
  | nil => simp only [sEq, beq_self_eq_true, Bool.not_true, Bool.false_eq_true, if_false, goesF]; exact evt_some _
  | cons c r =>
    have e : sEq (c :: r) [] = false := rfl
    have h1 : (0 : Int) < (((c :: r).length : Nat) : Int) := by simp
    simp only [e, Bool.not_false, if_true, chk_p h1, chk_p (show (0 : Int) ≤ 0 by omega), Int.toNat_zero, List.getD_cons_zero, goesF]
    refine evt_bind (ret78 c) ?_
    exact evt_some _
def emptyF : List Ln → Option Nat
  | [] => none
  | l :: r => if l.1 = l.2.1 then some 0 else (emptyF r).map (· + 1)
theorem getD_ln {l : List Ln} {i : Nat} (h : i < l.length) : (l.map lnV).getD i .bot = lnV l[i] := by simp [List.getD, h]
theorem ret77 (l : Ln) : Ret 77 [lnV l] [] (.bool (decide (l.1 = l.2.1)), []) := by
  obtain ⟨p, q, r⟩ := l
  refine M77 p q r ?_
  simp only [T77]
  have e : (((p : Nat) : Int) == ((q : Nat) : Int)) = decide (p = q) := by
    by_cases h : p = q
    · subst h; simp
    · have : ¬ ((p : Int) = (q : Int)) := by omega
      simp [h, this]
  rw [e]
  exact evt_some _
def optI : Option Nat → Int
  | none => -1
  | some k => k
theorem loop76 (l : List Ln) (hl : l.length ≤ 1000000) : ∀ (n i : Nat), l.length - i ≤ n → i ≤ l.length →
    Evt (fun k n => L76 (callN cfg k) n (l.map lnV) (l.length : Nat) (i : Nat)) (.int .i64 (optI ((emptyF (l.drop i)).map (· + i))), []) := by
  have fin : ∀ i : Nat, i = l.length → Evt (fun k n => L76 (callN cfg k) n (l.map lnV) (l.length : Nat) (i : Nat)) (.int .i64 (optI ((emptyF (l.drop i)).map (· + i))), []) := by
    intro i h
    refine N76_0 (l.map lnV) (l.length : Nat) (i : Nat) ?_
    have h1 : ¬ ((i : Int) < (l.length : Int)) := by omega
    rw [List.drop_eq_nil_of_le (by omega)]
    simp only [T76_0, h1, decide_false, Bool.false_eq_true, if_false, emptyF, Option.map_none, optI]
    exact evt_some _
  intro n
  induction n with
  | zero => intro i h hi; exact fin i (by omega)
  | succ n ih =>
    intro i h hi
    by_cases hlt : i < l.length
    · refine N76_0 (l.map lnV) (l.length : Nat) (i : Nat) ?_
      have h1 : ((i : Int) < (l.length : Int)) := by omega
      have h2 : (0 : Int) ≤ (i : Int) := by omega
      have hw : IntKind.wrap .i64 ((i : Int) + 1) = ((i + 1 : Nat) : Int) := by rw [wrap64 (by omega) (by omega)]; omega
      have hd : l.drop i = l[i] :: l.drop (i + 1) := List.drop_eq_getElem_cons hlt
      simp only [T76_0, h1, decide_true, if_true, chk_p h2, List.length_map, chk_t, Int.toNat_natCast, getD_ln hlt, lnV, V.cells, List.headD_cons, List.tail_cons, V.getI, hw]
      refine evt_bind (ret77 l[i]) ?_
      simp only [V.getB, decide_eq_true_eq]
      rw [hd, emptyF]
      by_cases hn : l[i].1 = l[i].2.1
      · simp only [hn, if_true, Option.map_some, Nat.zero_add, optI]
        exact evt_some _
      · simp only [hn, if_false]
        have := ih (i + 1) (by omega) (by omega)
        have e : ((emptyF (l.drop (i + 1))).map (· + 1)).map (· + i) = (emptyF (l.drop (i + 1))).map (· + (i + 1)) := by
          rw [Option.map_map]; congr 1; funext x; simp only [Function.comp]; omega
        rw [e]
        exact this
    · exact fin i (by omega)
theorem ret56 (l : List Ln) (hl : l.length ≤ 1000000) : Ret 56 [.lst 104 false (l.map lnV)] [] (.int .i64 (optI (emptyF l)), []) := by
  refine M56 (l.map lnV) ?_
  simp only [T56]
  have h76 : Ret 76 [.lst 104 false (l.map lnV), .clo (Fn.func 77) [] []] [] (.int .i64 (optI (emptyF l)), []) := by
    refine M76 (l.map lnV) ?_
    simp only [T76, List.length_map]
    have := loop76 l hl l.length 0 (by omega) (by omega)
    simpa using this
  refine evt_bind h76 ?_
  exact evt_some _
end Go.Proofs.YtemgbdncidgoiaaDoor
end
section
namespace Go.Proofs.YtemgbdncidgoiaaDoor
open Go.Ev Go
def visB (c : UInt8) : Bool := 33 ≤ c && c ≤ 126
def backN (s : Bs) : Nat → Nat
  | 0 => 0
  | n + 1 => if blankB (s.getD n 0) then backN s n else n + 1
theorem backN_le (s : Bs) : ∀ n, backN s n ≤ n
  | 0 => Nat.le_refl _
  | n + 1 => by
    unfold backN
    split
    · have := backN_le s n; omega
    · exact Nat.le_refl _
def namedF (s : Bs) : Option (Bs × Nat) :=
  if Lib.indexByte s 58 < 0 then none else
  if (s.take (backN s (Lib.indexByte s 58).toNat)).all visB && decide (0 < backN s (Lib.indexByte s 58).toNat) then some (s.take (backN s (Lib.indexByte s 58).toNat), (Lib.indexByte s 58).toNat + 1) else none
def NamedV (s : Bs) (r : V × List Ob) : Prop := ∃ u m, r = (.tup [.str u, .int .i64 m, .bool (namedF s).isSome], []) ∧ ∀ p, namedF s = some p → u = p.1 ∧ m = p.2
theorem vis_int (c : UInt8) : (((c.toNat : Nat) : Int) < 33 ∨ ((c.toNat : Nat) : Int) > 126) ↔ visB c = false := by
  have h1 := intB_le 33 c
  have h2 := intB_le c 126
  have e33 : ((UInt8.toNat 33 : Nat) : Int) = 33 := rfl
  have e126 : ((UInt8.toNat 126 : Nat) : Int) = 126 := rfl
  rw [e33] at h1
  rw [e126] at h2
  simp only [visB, Bool.and_eq_false_iff, decide_eq_false_iff_not]
  rw [← h1, ← h2]
  omega
theorem loop59_1 (s : Bs) (hs : s.length ≤ 1000000) (k n : Nat) (hk : Lib.indexByte s 58 = k) (hks : k < s.length) (hn : n = backN s k) : ∀ (m i : Nat), n - i = m → i ≤ n → (s.take i).all visB = true →
    ∃ r, NamedV s r ∧ Evt (fun q j => (L59 (callN cfg q) j).2 s (k : Nat) (n : Nat) (n : Nat) (i : Nat)) r
  | 0, i, h, hi, ha => by
    have hin : i = n := by omega
    subst hin
    have hnk := backN_le s k
    refine ⟨_, ⟨s.take i, (k : Int) + 1, rfl, fun p hp => ?_⟩, N59_1 s (k : Nat) (i : Nat) (i : Nat) (i : Nat) ?_⟩
    · have h0 : ¬ ((k : Int) < 0) := by omega
      unfold namedF at hp
      rw [hk, if_neg h0, Int.toNat_natCast, ← hn, ha] at hp
      split at hp
      · cases hp; exact ⟨rfl, by omega⟩
      · cases hp
    · have h1 : ¬ ((i : Int) < (i : Int)) := by omega
      have h2 : (0 : Int) ≤ (i : Int) := by omega
      have h3 : (i : Int) ≤ (s.length : Int) := by omega
      have hw : IntKind.wrap .i64 ((k : Int) + 1) = (k : Int) + 1 := wrap64 (by omega) (by omega)
      have he : (namedF s).isSome = decide ((i : Int) > 0) := by
        have h0 : ¬ ((k : Int) < 0) := by omega
        unfold namedF
        rw [hk, if_neg h0, Int.toNat_natCast, ← hn, ha]
        by_cases hi0 : 0 < i
        · have : (i : Int) > 0 := by omega
          simp [hi0, this]
        · have : ¬ ((i : Int) > 0) := by omega
          simp [hi0, this]
      rw [he]
      simp only [T59_1, h1, decide_false, Bool.false_eq_true, if_false, chk_p h2, chk_p h3, chk_p (show (0 : Int) ≤ 0 by omega), Int.toNat_zero, List.drop_zero, Int.toNat_natCast, hw]
      exact evt_some _
  | m + 1, i, h, hi, ha => by
    have hnk := backN_le s k
    have his : i < s.length := by omega
    have h1 : ((i : Int) < (n : Int)) := by omega
    have h2 : (0 : Int) ≤ (i : Int) := by omega
    have h3 : (i : Int) < (s.length : Int) := by omega
    have hw : IntKind.wrap .i64 ((i : Int) + 1) = ((i + 1 : Nat) : Int) := by rw [wrap64 (by omega) (by omega)]; omega
    have hy : (chk (decide ((0 : Int) ≤ (i : Int))) (chk (decide ((i : Int) < (s.length : Int))) (if (decide (((s[i].toNat : Nat) : Int) < (33 : Int))) = false then
        chk (decide ((0 : Int) ≤ (i : Int))) (chk (decide ((i : Int) < (s.length : Int))) (some (decide (((s[i].toNat : Nat) : Int) > (126 : Int)))))
      else some true))) = some (!visB s[i]) := by
      rw [chk_p h2, chk_p h3]
      have hv := vis_int s[i]
      by_cases c1 : ((s[i].toNat : Nat) : Int) < 33
      · simp [c1, hv.1 (.inl c1)]
      · by_cases c2 : ((s[i].toNat : Nat) : Int) > 126
        · simp only [c1, c2, decide_false, decide_true, if_true, chk_p h2, chk_p h3, hv.1 (.inr c2), Bool.not_false]
        · have : visB s[i] = true := by
            cases hvv : visB s[i] with
            | true => rfl
            | false => rcases hv.2 hvv with h | h; exact absurd h c1; exact absurd h c2
          simp only [c1, c2, decide_false, if_true, chk_p h2, chk_p h3, this, Bool.not_true]
    by_cases hv : visB s[i] = true
    · obtain ⟨r, hr1, hr2⟩ := loop59_1 s hs k n hk hks hn m (i + 1) (by omega) (by omega) (by
        rw [List.take_add_one, List.all_append, ha, List.getElem?_eq_getElem his]; simp [hv])
      refine ⟨r, hr1, N59_1 s (k : Nat) (n : Nat) (n : Nat) (i : Nat) ?_⟩
      simp only [T59_1, h1, decide_true, if_true, Int.toNat_natCast, getD_at his, hw]
      simp only [hy, bind_s, hv, Bool.not_true, Bool.false_eq_true, if_false]
      exact hr2
    · have hv' : visB s[i] = false := by simpa using hv
      refine ⟨_, ⟨[], 0, rfl, fun p hp => ?_⟩, N59_1 s (k : Nat) (n : Nat) (n : Nat) (i : Nat) ?_⟩
      · exfalso
        have h0 : ¬ ((k : Int) < 0) := by omega
        unfold namedF at hp
        rw [hk, if_neg h0, Int.toNat_natCast, ← hn] at hp
        have : (s.take n).all visB = false := by
          rw [List.all_eq_false]
          exact ⟨s[i], List.mem_take_iff_getElem.2 ⟨i, by omega, rfl⟩, by simp [hv']⟩
        rw [this] at hp
        simp at hp
      · have he : (namedF s).isSome = false := by
          have h0 : ¬ ((k : Int) < 0) := by omega
          have : (s.take n).all visB = false := by
            rw [List.all_eq_false]
            exact ⟨s[i], List.mem_take_iff_getElem.2 ⟨i, by omega, rfl⟩, by simp [hv']⟩
          unfold namedF
          rw [hk, if_neg h0, Int.toNat_natCast, ← hn, this]
          simp
        rw [he]
        simp only [T59_1, h1, decide_true, if_true, Int.toNat_natCast, getD_at his]
        simp only [hy, bind_s, hv', Bool.not_false, if_true]
        exact evt_some _
theorem loop59_0 (s : Bs) (hs : s.length ≤ 1000000) (k : Nat) (hk : Lib.indexByte s 58 = k) (hks : k < s.length) : ∀ n : Nat, n ≤ k → backN s n = backN s k →
    ∃ r, NamedV s r ∧ Evt (fun q j => (L59 (callN cfg q) j).1 s (k : Nat) (n : Nat)) r
  | 0, hn, hb => by
    obtain ⟨r, hr1, hr2⟩ := loop59_1 s hs k 0 hk hks hb 0 0 rfl (Nat.le_refl _) rfl
    refine ⟨r, hr1, N59_0 s (k : Nat) (0 : Nat) ?_⟩
    have h1 : ¬ (((0 : Nat) : Int) > 0) := by omega
    simp only [T59_0, h1, decide_false, Bool.false_eq_true, if_false]
    exact hr2
  | n + 1, hn, hb => by
    have hlt : n < s.length := by omega
    have h1 : (((n + 1 : Nat) : Int) > 0) := by omega
    have hw : IntKind.wrap .i64 (((n + 1 : Nat) : Int) - 1) = (n : Int) := by rw [wrap64 (by omega) (by omega)]; omega
    have h2 : (0 : Int) ≤ (n : Int) := by omega
    have h3 : (n : Int) < (s.length : Int) := by omega
    by_cases hbl : blankB s[n] = true
    · have hb' : backN s n = backN s k := by
        rw [← hb]; conv => rhs; unfold backN
        rw [getD_at hlt, hbl]; rfl
      obtain ⟨r, hr1, hr2⟩ := loop59_0 s hs k hk hks n (by omega) hb'
      refine ⟨r, hr1, N59_0 s (k : Nat) ((n + 1 : Nat) : Int) ?_⟩
      simp only [T59_0, h1, decide_true, if_true, hw, chk_p h2, chk_p h3, Int.toNat_natCast, getD_at hlt]
      refine evt_bind (ret78 s[n]) ?_
      simp only [V.getB, hbl, if_true]
      exact hr2
    · have hbl' : blankB s[n] = false := by simpa using hbl
      have hb' : n + 1 = backN s k := by
        rw [← hb]; unfold backN
        rw [getD_at hlt, hbl']; rfl
      obtain ⟨r, hr1, hr2⟩ := loop59_1 s hs k (n + 1) hk hks hb' (n + 1) 0 (by omega) (by omega) rfl
      refine ⟨r, hr1, N59_0 s (k : Nat) ((n + 1 : Nat) : Int) ?_⟩
      simp only [T59_0, h1, decide_true, if_true, hw, chk_p h2, chk_p h3, Int.toNat_natCast, getD_at hlt]
      refine evt_bind (ret78 s[n]) ?_
      simp only [V.getB, hbl', Bool.false_eq_true, if_false]
      exact hr2
theorem ret59 (s : Bs) (hs : s.length ≤ 1000000) : ∃ r, NamedV s r ∧ Ret 59 [.str s] [] r := by
  have h79 : Ret 79 [.str s, .int .u8 58] [] (.int .i64 (Lib.indexByte s 58), []) := ret_hand (h := ixbF) (by kernel_rfl) rfl
  by_cases h : Lib.indexByte s 58 < 0
  · refine ⟨_, ⟨[], 0, rfl, fun p hp => ?_⟩, M59 s ?_⟩
    · unfold namedF at hp
      rw [if_pos h] at hp; cases hp
    · have he : (namedF s).isSome = false := by unfold namedF; rw [if_pos h]; rfl
      rw [he]
      simp only [T59]
      refine evt_bind h79 ?_
      simp only [V.getI, h, decide_true, if_true]
      exact evt_some _
  · obtain ⟨k, hk⟩ : ∃ k : Nat, Lib.indexByte s 58 = k := ⟨(Lib.indexByte s 58).toNat, by omega⟩
    have hks : k < s.length := (List.getElem?_eq_some_iff.1 (Lib.indexByte_some hk).1).1
    obtain ⟨r, hr1, hr2⟩ := loop59_0 s hs k hk hks k (Nat.le_refl _) rfl
    refine ⟨r, hr1, M59 s ?_⟩
    simp only [T59]
    refine evt_bind h79 ?_
    simp only [V.getI, h, decide_false, Bool.false_eq_true, if_false]
    rw [hk]
    exact hr2
end Go.Proofs.YtemgbdncidgoiaaDoor
end
section
namespace Go.Proofs.YtemgbdncidgoiaaDoor
open Go.Ev Go
abbrev Fd := Bs × Nat × Nat × Nat
def fdV (f : Fd) : V := .agg [.str f.1, .int .i64 f.2.1, .int .i64 f.2.2.1, .int .i64 f.2.2.2]
def setTo (l : List Fd) (to : Nat) : List Fd := match l[l.length - 1]? with | some f => l.set (l.length - 1) (f.1, f.2.1, f.2.2.1, to) | none => l
def stepH (b : Bs) (st : List Fd × Bool) (x : Ln) : List Fd × Bool :=
  if goesF (lineT b x) then (if st.2 then (setTo st.1 x.2.2, true) else st)
  else match namedF (lineT b x) with
    | none => (st.1, false)
    | some p => (st.1 ++ [(p.1, x.1, x.1 + p.2, x.2.2)], true)
def headF (b : Bs) (fr to : Int) : List Fd × Int :=
  if linesOf fr to b = [] then ([], fr) else
  match emptyF (linesOf fr to b) with
    | some k => ((((linesOf fr to b).take k).foldl (stepH b) ([], false)).1, ((linesOf fr to b).getD k (0, 0, 0)).2.2)
    | none => (((linesOf fr to b).foldl (stepH b) ([], false)).1, ((linesOf fr to b).getD ((linesOf fr to b).length - 1) (0, 0, 0)).2.2)
theorem linesG_bounds : ∀ (n a : Nat) (s : Bs), ∀ x ∈ linesG n a s, a ≤ x.1 ∧ x.1 ≤ x.2.1 ∧ x.2.1 ≤ x.2.2 ∧ x.2.2 ≤ a + s.length
  | 0, a, s, x, hx => by cases hx
  | n + 1, a, s, x, hx => by
    unfold linesG at hx
    split at hx
    · cases hx
    · rename_i hs
      split at hx
      · simp at hx; subst hx; simp
      · rename_i hk
        obtain ⟨k, hk'⟩ : ∃ k : Nat, Lib.indexByte s 10 = k := ⟨(Lib.indexByte s 10).toNat, by omega⟩
        have hks : k < s.length := (List.getElem?_eq_some_iff.1 (Lib.indexByte_some hk').1).1
        rw [hk'] at hx
        simp only [Int.toNat_natCast] at hx
        rcases List.mem_cons.1 hx with rfl | hx
        · simp only
          split <;> omega
        · have := linesG_bounds n _ _ x hx
          rw [List.length_drop] at this
          omega
theorem linesOf_bounds {fr to : Int} {b : Bs} : ∀ x ∈ linesOf fr to b, x.1 ≤ x.2.1 ∧ x.2.1 ≤ x.2.2 ∧ x.2.2 ≤ b.length := by
  intro x hx
  unfold linesOf at hx
  split at hx
  · rename_i h
    have := linesG_bounds _ _ _ x hx
    simp at this
    omega
  · cases hx
theorem emptyF_lt : ∀ {l : List Ln} {k : Nat}, emptyF l = some k → k < l.length
  | [], k, h => by cases h
  | x :: r, k, h => by
    unfold emptyF at h
    split at h
    · cases h; simp
    · obtain ⟨j, h1, rfl⟩ := Option.map_eq_some_iff.1 h
      have := emptyF_lt h1
      simp; omega
theorem namedF_le {s : Bs} {p : Bs × Nat} (h : namedF s = some p) : p.2 ≤ s.length := by
  unfold namedF at h
  split at h
  · cases h
  · rename_i hk
    obtain ⟨k, hk'⟩ : ∃ k : Nat, Lib.indexByte s 58 = k := ⟨(Lib.indexByte s 58).toNat, by omega⟩
    have hks : k < s.length := (List.getElem?_eq_some_iff.1 (Lib.indexByte_some hk').1).1
    rw [hk'] at h
    simp only [Int.toNat_natCast] at h
    split at h
    · cases h; simp only; omega
    · cases h
theorem lineT_le (b : Bs) (l : Ln) : (lineT b l).length ≤ b.length := by
  unfold lineT subF
  split
  · simp; omega
  · simp
theorem setTo_length (l : List Fd) (to : Nat) : (setTo l to).length = l.length := by
  unfold setTo; split <;> simp
theorem getD_fd {l : List Fd} {i : Nat} (h : i < l.length) : (l.map fdV).getD i .bot = fdV l[i] := by simp [List.getD, h]
theorem loop39 (b : Bs) (hb : b.length ≤ 1000000) (at_ : Int) (l : List Ln) (hl : l.length ≤ 1000000) (hx : ∀ x ∈ l, x.1 ≤ 1000000) : ∀ (n i : Nat) (out : List Fd) (on : Bool), l.length - i = n → i ≤ l.length → out.length ≤ i → (on = true → out ≠ []) →
    Evt (fun k n => L39 (callN cfg k) n (ofBytes b) at_ (out.map fdV) on (l.map lnV) (l.length : Nat) (i : Nat)) (.tup [.lst 109 false (((l.drop i).foldl (stepH b) (out, on)).1.map fdV), .int .i64 at_], [])
  | 0, i, out, on, h, hi, ho, hon => by
    refine N39_0 (ofBytes b) at_ (out.map fdV) on (l.map lnV) (l.length : Nat) (i : Nat) ?_
    have h1 : ¬ ((i : Int) < (l.length : Int)) := by omega
    rw [List.drop_eq_nil_of_le (by omega)]
    simp only [T39_0, h1, decide_false, Bool.false_eq_true, if_false, List.foldl_nil]
    exact evt_some _
  | n + 1, i, out, on, h, hi, ho, hon => by
    have hlt : i < l.length := by omega
    refine N39_0 (ofBytes b) at_ (out.map fdV) on (l.map lnV) (l.length : Nat) (i : Nat) ?_
    have h1 : ((i : Int) < (l.length : Int)) := by omega
    have h2 : (0 : Int) ≤ (i : Int) := by omega
    have hw : IntKind.wrap .i64 ((i : Int) + 1) = ((i + 1 : Nat) : Int) := by rw [wrap64 (by omega) (by omega)]; omega
    have hd : l.drop i = l[i] :: l.drop (i + 1) := List.drop_eq_getElem_cons hlt
    have hxi := hx l[i] (List.getElem_mem hlt)
    have htl := lineT_le b l[i]
    have h57 : Ret 57 [.lst 5 false (ofBytes b), .agg [.int .i64 (l[i].1 : Nat), .int .i64 (l[i].2.1 : Nat), .int .i64 (l[i].2.2 : Nat)]] [] (.str (lineT b l[i]), []) := ret57 b l[i]
    rw [hd, List.foldl_cons]
    simp only [T39_0, h1, decide_true, if_true, chk_p h2, List.length_map, Int.toNat_natCast, getD_ln hlt, lnV, V.cells, List.headD_cons, List.tail_cons, V.getI, hw]
    refine evt_bind h57 ?_
    simp only [V.getS]
    refine evt_bind (ret58 (lineT b l[i])) ?_
    simp only [V.getB]
    by_cases hg : goesF (lineT b l[i]) = true
    · simp only [hg, if_true]
      cases on with
      | true =>
        have hne := hon rfl
        have hpos : 0 < out.length := List.length_pos_iff.2 hne
        have hw2 : IntKind.wrap .i64 ((out.length : Int) - 1) = ((out.length - 1 : Nat) : Int) := by rw [wrap64 (by omega) (by omega)]; omega
        have h3 : (0 : Int) ≤ ((out.length - 1 : Nat) : Int) := by omega
        have h4 : ((out.length - 1 : Nat) : Int) < (out.length : Int) := by omega
        have hol : out.length - 1 < out.length := by omega
        have hst : stepH b (out, true) l[i] = (setTo out l[i].2.2, true) := by unfold stepH; rw [hg]; rfl
        have hset : (out.map fdV).set (out.length - 1) (.agg [.str out[out.length - 1].1, .int .i64 (out[out.length - 1].2.1 : Nat), .int .i64 (out[out.length - 1].2.2.1 : Nat), .int .i64 (l[i].2.2 : Nat)]) = (setTo out l[i].2.2).map fdV := by
          unfold setTo
          rw [List.getElem?_eq_getElem hol]
          simp only [List.map_set]
          rfl
        rw [hst]
        simp only [if_true, hw2, chk_p h3, chk_p h4, Int.toNat_natCast, getD_fd hol, fdV, V.cells, List.headD_cons, List.tail_cons, V.getS, V.getI]
        rw [hset]
        exact loop39 b hb at_ l hl hx n (i + 1) (setTo out l[i].2.2) true (by omega) (by omega) (by rw [setTo_length]; omega) (fun _ => by
          rw [← List.length_pos_iff, setTo_length]; exact hpos)
      | false =>
        have hst : stepH b (out, false) l[i] = (out, false) := by unfold stepH; rw [hg]; rfl
        rw [hst]
        simp only [Bool.false_eq_true, if_false]
        exact loop39 b hb at_ l hl hx n (i + 1) out false (by omega) (by omega) (by omega) (fun h => by cases h)
    · have hg' : goesF (lineT b l[i]) = false := by simpa using hg
      simp only [hg', Bool.false_eq_true, if_false]
      obtain ⟨r, ⟨u, m, rfl, hum⟩, hr⟩ := ret59 (lineT b l[i]) (by omega)
      refine evt_bind hr ?_
      simp only [V.getT, List.headD_cons, List.tail_cons, V.getB, V.getS, V.getI]
      cases hn : namedF (lineT b l[i]) with
      | none =>
        have hst : stepH b (out, on) l[i] = (out, false) := by unfold stepH; rw [hg', hn]; rfl
        rw [hst]
        simp only [Option.isSome_none, Bool.false_eq_true, if_false]
        exact loop39 b hb at_ l hl hx n (i + 1) out false (by omega) (by omega) (by omega) (fun h => by cases h)
      | some p =>
        obtain ⟨rfl, rfl⟩ := hum p hn
        have hpl := namedF_le hn
        have hst : stepH b (out, on) l[i] = (out ++ [(p.1, l[i].1, l[i].1 + p.2, l[i].2.2)], true) := by unfold stepH; rw [hg', hn]; rfl
        have hw3 : IntKind.wrap .i64 ((l[i].1 : Int) + (p.2 : Int)) = ((l[i].1 + p.2 : Nat) : Int) := by rw [wrap64 (by omega) (by omega)]; omega
        have hap : appOk (out.map fdV) [V.agg [.str p.1, .int .i64 (l[i].1 : Nat), .int .i64 ((l[i].1 + p.2 : Nat) : Int), .int .i64 (l[i].2.2 : Nat)]] 41 = true := app_ok (by simp; omega)
        rw [hst]
        simp only [Option.isSome_some, if_true, hw3, chk_b hap]
        have := loop39 b hb at_ l hl hx n (i + 1) (out ++ [(p.1, l[i].1, l[i].1 + p.2, l[i].2.2)]) true (by omega) (by omega) (by simp; omega) (fun _ => by simp)
        simp only [List.map_append, List.map_cons, List.map_nil, fdV] at this
        exact this
theorem ret39 (b : Bs) (hb : b.length ≤ 1000000) (fr to : Int) :
    Ret 39 [.lst 5 false (ofBytes b), .agg [.int .i64 fr, .int .i64 to]] [] (.tup [.lst 109 false ((headF b fr to).1.map fdV), .int .i64 (headF b fr to).2], []) := by
  refine M39 (ofBytes b) fr to ?_
  simp only [T39]
  refine evt_bind (ret55 b hb fr to) ?_
  have hll := linesOf_length fr to b
  have hbd := linesOf_bounds (fr := fr) (to := to) (b := b)
  simp only [V.getL, List.length_map]
  unfold headF
  generalize linesOf fr to b = l at hll hbd
  by_cases hl0 : l = []
  · subst hl0; exact evt_some _
  · have hpos : 0 < l.length := List.length_pos_iff.2 hl0
    have h0 : ((((l.length : Nat) : Int)) == (0 : Int)) = false := beq_eq_false_iff_ne.2 (by omega)
    have hw : IntKind.wrap .i64 ((l.length : Int) - 1) = ((l.length - 1 : Nat) : Int) := by rw [wrap64 (by omega) (by omega)]; omega
    have h1 : (0 : Int) ≤ ((l.length - 1 : Nat) : Int) := by omega
    have h2 : ((l.length - 1 : Nat) : Int) < (l.length : Int) := by omega
    rw [if_neg hl0]
    simp only [h0, Bool.false_eq_true, if_false, hw, chk_p h1, chk_p h2]
    refine evt_bind (ret56 l (by omega)) ?_
    have hxs : ∀ y ∈ l, y.1 ≤ 1000000 := fun y hy => by have := hbd y hy; omega
    have hgi : ∀ z : Int, (V.int .i64 z).getI = z := fun _ => rfl
    simp only [hgi]
    cases he : emptyF l with
    | none =>
      have hoi : optI none = -1 := rfl
      have h3 : ¬ ((-1 : Int) ≥ (0 : Int)) := by omega
      have hlt : l.length - 1 < l.length := by omega
      simp only [hoi, h3, decide_false, Bool.false_eq_true, if_false, Int.toNat_natCast, getD_ln hlt, lnV, V.cells, List.headD_cons, List.tail_cons, hgi]
      have := loop39 b hb (l[l.length - 1].2.2 : Nat) l (by omega) hxs l.length 0 [] false (by omega) (by omega) (by simp) (fun h => by cases h)
      have e : l.getD (l.length - 1) (0, 0, 0) = l[l.length - 1] := by simp [List.getD, hlt]
      rw [e]
      simpa using this
    | some k =>
      have hk := emptyF_lt he
      have hoi : optI (some k) = (k : Int) := rfl
      have h3 : ((k : Int) ≥ (0 : Int)) := by omega
      have h5 : (k : Int) < (l.length : Int) := by omega
      have h6 : (k : Int) ≤ (l.length : Int) := by omega
      simp only [hoi]
      simp only [h3, decide_true, if_true, chk_t, chk_p h5, chk_p h6, chk_p (show (0 : Int) ≤ 0 by omega), Int.toNat_natCast, getD_ln hk, lnV, V.cells, List.headD_cons, List.tail_cons, hgi, Int.toNat_zero, List.drop_zero]
      have e : l.getD k (0, 0, 0) = l[k] := by simp [List.getD, hk]
      have htl : (l.take k).length = k := by simp; omega
      have := loop39 b hb (l[k].2.2 : Nat) (l.take k) (by omega) (fun y hy => hxs y (List.mem_of_mem_take hy)) k 0 [] false (by omega) (by omega) (by simp) (fun h => by cases h)
      rw [e]
      rw [List.map_take] at this
      have hmin : min k l.length = k := by omega
      simpa [htl, hmin] using this
end Go.Proofs.YtemgbdncidgoiaaDoor
end
section
namespace Go.Proofs.YtemgbdncidgoiaaDoor
open Go.Ev Go
def low (s : Bs) : Bs := s.map low8
def idxFd : List Fd → Bs → Option Nat
  | [], _ => none
  | f :: r, name => if low f.1 = low name then some 0 else (idxFd r name).map (· + 1)
def findFd : List Fd → Bs → Option Fd
  | [], _ => none
  | f :: r, name => if low f.1 = low name then some f else findFd r name
theorem idxFd_some : ∀ {l : List Fd} {name : Bs} {k : Nat}, idxFd l name = some k → ∃ h : k < l.length, findFd l name = some l[k]
  | [], _, k, h => by cases h
  | f :: r, name, k, h => by
    unfold idxFd at h
    unfold findFd
    split at h
    · rename_i hc
      cases h
      exact ⟨by simp, by rw [if_pos hc]; rfl⟩
    · rename_i hc
      obtain ⟨j, h1, rfl⟩ := Option.map_eq_some_iff.1 h
      obtain ⟨h2, h3⟩ := idxFd_some h1
      exact ⟨by simp; omega, by rw [if_neg hc, h3]; rfl⟩
theorem idxFd_none : ∀ {l : List Fd} {name : Bs}, idxFd l name = none → findFd l name = none
  | [], _, _ => rfl
  | f :: r, name, h => by
    unfold idxFd at h
    unfold findFd
    split at h
    · cases h
    · rename_i hc
      rw [if_neg hc]
      exact idxFd_none (by simpa using h)
theorem ret89 (f : Fd) (name : Bs) (hf : f.1.length ≤ 1000000) (hn : name.length ≤ 1000000) :
    Ret 89 [fdV f, .ref 0 0] [.cells [.str name]] (.bool (low f.1 == low name), [.cells [.str name]]) := by
  obtain ⟨a, p, q, r⟩ := f
  refine M89 a p q r name ?_
  simp only [T89]
  refine evt_bind (ret62 a name (by simp only at hf; omega) (by omega)) ?_
  exact evt_some _
theorem loop88 (name : Bs) (hn : name.length ≤ 1000000) (l : List Fd) (hl : l.length ≤ 1000000) (hv : ∀ f ∈ l, f.1.length ≤ 1000000) : ∀ (n i : Nat), l.length - i ≤ n → i ≤ l.length →
    Evt (fun k n => L88 (callN cfg k) n (l.map fdV) (l.length : Nat) (i : Nat) name) (.int .i64 (optI ((idxFd (l.drop i) name).map (· + i))), [.cells [.str name]]) := by
  have fin : ∀ i : Nat, i = l.length → Evt (fun k n => L88 (callN cfg k) n (l.map fdV) (l.length : Nat) (i : Nat) name) (.int .i64 (optI ((idxFd (l.drop i) name).map (· + i))), [.cells [.str name]]) := by
    intro i h
    refine N88_0 (l.map fdV) (l.length : Nat) (i : Nat) name ?_
    have h1 : ¬ ((i : Int) < (l.length : Int)) := by omega
    rw [List.drop_eq_nil_of_le (by omega)]
    simp only [T88_0, h1, decide_false, Bool.false_eq_true, if_false, idxFd, Option.map_none, optI]
    exact evt_some _
  intro n
  induction n with
  | zero => intro i h hi; exact fin i (by omega)
  | succ n ih =>
    intro i h hi
    by_cases hlt : i < l.length
    · refine N88_0 (l.map fdV) (l.length : Nat) (i : Nat) name ?_
      have h1 : ((i : Int) < (l.length : Int)) := by omega
      have h2 : (0 : Int) ≤ (i : Int) := by omega
      have hw : IntKind.wrap .i64 ((i : Int) + 1) = ((i + 1 : Nat) : Int) := by rw [wrap64 (by omega) (by omega)]; omega
      have hd : l.drop i = l[i] :: l.drop (i + 1) := List.drop_eq_getElem_cons hlt
      simp only [T88_0, h1, decide_true, if_true, chk_p h2, List.length_map, chk_t, Int.toNat_natCast, getD_fd hlt, fdV, V.cells, List.headD_cons, List.tail_cons, V.getI, V.getS, hw]
      refine evt_bind (ret89 l[i] name (hv _ (List.getElem_mem hlt)) hn) ?_
      simp only [V.getB, List.headD_cons, Ob.getC, V.getS]
      rw [hd, idxFd]
      by_cases hc : low l[i].1 = low name
      · simp only [hc, beq_self_eq_true, if_true, Option.map_some, Nat.zero_add, optI]
        exact evt_some _
      · have hb : (low l[i].1 == low name) = false := by simpa using hc
        simp only [hb, hc, Bool.false_eq_true, if_false]
        have := ih (i + 1) (by omega) (by omega)
        have e : ((idxFd (l.drop (i + 1)) name).map (· + 1)).map (· + i) = (idxFd (l.drop (i + 1)) name).map (· + (i + 1)) := by
          rw [Option.map_map]; congr 1; funext x; simp only [Function.comp]; omega
        rw [e]
        exact this
    · exact fin i (by omega)
def fdTold : Option Fd → V
  | some f => .tup [fdV f, .bool true]
  | none => .tup [.agg [.str [], .int .i64 0, .int .i64 0, .int .i64 0], .bool false]
theorem ret64 (l : List Fd) (hl : l.length ≤ 1000000) (hv : ∀ f ∈ l, f.1.length ≤ 1000000) (name : Bs) (hn : name.length ≤ 1000000) :
    Ret 64 [.lst 109 false (l.map fdV), .str name] [] (fdTold (findFd l name), []) := by
  refine M64 (l.map fdV) name ?_
  simp only [T64, List.length_map]
  have h88 : Ret 88 [.lst 109 false (l.map fdV), .clo (Fn.func 89) [] [.ref 0 0]] [.cells [.str name]] (.int .i64 (optI (idxFd l name)), [.cells [.str name]]) := by
    refine M88 (l.map fdV) name ?_
    simp only [T88, List.length_map]
    have := loop88 name hn l hl hv l.length 0 (by omega) (by omega)
    simpa using this
  refine evt_bind h88 ?_
  have hgi : ∀ z : Int, (V.int .i64 z).getI = z := fun _ => rfl
  simp only [hgi]
  cases he : idxFd l name with
  | none =>
    have hoi : optI none = -1 := rfl
    have h3 : ((-1 : Int) < (0 : Int)) := by omega
    rw [idxFd_none he]
    simp only [hoi, h3, decide_true, if_true]
    exact evt_some _
  | some k =>
    obtain ⟨hk, hfd⟩ := idxFd_some he
    have hoi : optI (some k) = (k : Int) := rfl
    have h3 : ¬ ((k : Int) < (0 : Int)) := by omega
    have h4 : (0 : Int) ≤ (k : Int) := by omega
    have h5 : (k : Int) < (l.length : Int) := by omega
    rw [hfd]
    simp only [hoi]
    simp only [h3, decide_false, Bool.false_eq_true, if_false, chk_p h4, chk_p h5, Int.toNat_natCast, getD_fd hk, fdV, V.cells, List.headD_cons, List.tail_cons, hgi, V.getS, fdTold]
    exact evt_some _
end Go.Proofs.YtemgbdncidgoiaaDoor
end
section
namespace Go.Proofs.YtemgbdncidgoiaaDoor
open Go.Ev Go
def ltrim : Bs → Bs
  | [] => []
  | c :: r => if blankB c then ltrim r else c :: r
def rtrimN (s : Bs) : Nat → Bs
  | 0 => []
  | n + 1 => if blankB (s.getD n 0) then rtrimN s n else s.take (n + 1)
def trimF (s : Bs) : Bs := rtrimN (ltrim s) (ltrim s).length
theorem ltrim_le : ∀ s : Bs, (ltrim s).length ≤ s.length
  | [] => Nat.le_refl _
  | c :: r => by
    unfold ltrim
    split
    · have := ltrim_le r; simp; omega
    · exact Nat.le_refl _
theorem rtrimN_le (s : Bs) : ∀ n, (rtrimN s n).length ≤ s.length
  | 0 => by simp [rtrimN]
  | n + 1 => by
    unfold rtrimN
    split
    · exact rtrimN_le s n
    · simp; omega
theorem trimF_le (s : Bs) : (trimF s).length ≤ s.length := Nat.le_trans (rtrimN_le _ _) (ltrim_le s)
theorem loop87_1 (s : Bs) (hs : s.length ≤ 9000000000000000000) : ∀ n, n ≤ s.length → Evt (fun k j => (L87 (callN cfg k) j).2 (s.take n)) (.str (rtrimN s n), [])
  | 0, hn => by
    refine N87_1 (s.take 0) ?_
    simp only [List.take_zero, T87_1, List.length_nil, rtrimN]
    exact evt_some _
  | n + 1, hn => by
    refine N87_1 (s.take (n + 1)) ?_
    have hl : (s.take (n + 1)).length = n + 1 := by simp; omega
    have h1 : (((n + 1 : Nat) : Int) > 0) := by omega
    have hw : IntKind.wrap .i64 (((n + 1 : Nat) : Int) - 1) = (n : Int) := by rw [wrap64 (by omega) (by omega)]; omega
    have h2 : (0 : Int) ≤ (n : Int) := by omega
    have h3 : (n : Int) < ((n + 1 : Nat) : Int) := by omega
    have h4 : (n : Int) ≤ ((n + 1 : Nat) : Int) := by omega
    have hlt : n < s.length := by omega
    have hg : (s.take (n + 1)).getD n 0 = s[n] := by simp [List.getD, List.getElem?_take, hlt]
    have htt : List.drop 0 (List.take n (s.take (n + 1))) = s.take n := by rw [List.drop_zero, List.take_take]; congr 1; omega
    have hgs : s.getD n 0 = s[n] := getD_at hlt
    simp only [T87_1, hl, h1, decide_true, if_true, hw, chk_p h2, chk_p h3, chk_p h4, chk_p (show (0 : Int) ≤ 0 by omega), Int.toNat_natCast, hg, Int.toNat_zero, htt]
    refine evt_bind (ret78 s[n]) ?_
    unfold rtrimN
    rw [hgs]
    cases hb : blankB s[n]
    · simp only [V.getB, Bool.false_eq_true, if_false]; exact evt_some _
    · simp only [V.getB, if_true]; exact loop87_1 s hs n (by omega)
theorem loop87_0 : ∀ s : Bs, s.length ≤ 9000000000000000000 → Evt (fun k j => (L87 (callN cfg k) j).1 s) (.str (trimF s), [])
  | [], hs => by
    refine N87_0 [] ?_
    have := loop87_1 [] (by simp) 0 (by simp)
    simp only [T87_0, List.length_nil]
    simpa [trimF, ltrim, rtrimN] using this
  | c :: r, hs => by
    refine N87_0 (c :: r) ?_
    have h1 : ((((c :: r).length : Nat) : Int) > 0) := by simp
    have h2 : ((0 : Int) < (((c :: r).length : Nat) : Int)) := h1
    have h3 : ((1 : Int) ≤ (((c :: r).length : Nat) : Int)) := by omega
    simp only [T87_0, h1, decide_true, if_true, chk_p h2, chk_p h3, chk_p (show (0 : Int) ≤ 0 by omega), chk_p (show (0 : Int) ≤ 1 by omega), Int.toNat_zero, List.getD_cons_zero, Int.toNat_one, List.drop_one, List.tail_cons, chk_t]
    refine evt_bind (ret78 c) ?_
    cases hb : blankB c
    · simp only [V.getB, Bool.false_eq_true, if_false]
      have := loop87_1 (c :: r) hs (c :: r).length (Nat.le_refl _)
      rw [List.take_length] at this
      have e : ltrim (c :: r) = c :: r := by unfold ltrim; rw [hb]; rfl
      unfold trimF
      rw [e]
      exact this
    · simp only [V.getB, if_true]
      have e : trimF (c :: r) = trimF r := by
        unfold trimF
        have : ltrim (c :: r) = ltrim r := by conv => lhs; unfold ltrim
                                              rw [hb]; rfl
        rw [this]
      rw [e]
      exact loop87_0 r (by simp at hs; omega)
theorem ret87 (s : Bs) (hs : s.length ≤ 9000000000000000000) : Ret 87 [.str s] [] (.str (trimF s), []) := by
  refine M87 s ?_
  exact loop87_0 s hs
theorem ret91 (o s : Bs) (h : o.length + s.length ≤ 10000000000000) :
    Ret 91 [.ref 0 0, .str s] [.cells [.opt 0 0, .lst 5 true (ofBytes o)]] (.tup [.int .i64 (s.length : Nat), .raw .nilIface], [.cells [.opt 0 0, .lst 5 true (ofBytes (o ++ s))]]) := by
  refine M91 (ofBytes o) s ?_
  have h108 : Ret 108 [.ref 0 0] [.cells [.opt 0 0, .lst 5 true (ofBytes o)]] (.tup [], [.cells [.opt 0 0, .lst 5 true (ofBytes o)]]) := ret_hand (h := checkF) (by kernel_rfl) rfl
  have hap : appOkS (ofBytes o) s 2 = true := by simp [appOkS, ofBytes_length]; omega
  have hof : ofBytes o ++ ofBytes s = ofBytes (o ++ s) := by simp [ofBytes]
  simp only [T91]
  refine evt_bind h108 ?_
  simp only [List.headD_cons, Ob.getC, List.tail_cons, V.getL, chk_b hap, hof]
  exact evt_some _
def bodyF (b : Bs) (f : Fd) : Bs := trimF ((linesOf f.2.2.1 f.2.2.2 b).flatMap (lineT b))
theorem linesG_sum : ∀ (n a : Nat) (s : Bs), ((linesG n a s).map fun x => x.2.1 - x.1).sum ≤ s.length
  | 0, a, s => by simp [linesG]
  | n + 1, a, s => by
    unfold linesG
    split
    · simp
    · split
      · simp
      · rename_i hk
        obtain ⟨k, hk'⟩ : ∃ k : Nat, Lib.indexByte s 10 = k := ⟨(Lib.indexByte s 10).toNat, by omega⟩
        have hks : k < s.length := (List.getElem?_eq_some_iff.1 (Lib.indexByte_some hk').1).1
        have := linesG_sum n (a + k + 1) (s.drop (k + 1))
        rw [List.length_drop] at this
        rw [hk']
        simp only [Int.toNat_natCast, List.map_cons, List.sum_cons]
        split <;> omega
theorem flat_lineT_le (b : Bs) : ∀ l : List Ln, (l.flatMap (lineT b)).length ≤ (l.map fun x => x.2.1 - x.1).sum
  | [] => by simp
  | x :: r => by
    have := flat_lineT_le b r
    have h : (lineT b x).length ≤ x.2.1 - x.1 := by
      unfold lineT subF
      split
      · simp; omega
      · simp
    simp only [List.flatMap_cons, List.length_append, List.map_cons, List.sum_cons]
    omega
theorem linesOf_text_le (fr to : Int) (b : Bs) : ((linesOf fr to b).flatMap (lineT b)).length ≤ b.length := by
  refine Nat.le_trans (flat_lineT_le b _) ?_
  unfold linesOf
  split
  · exact Nat.le_trans (linesG_sum _ _ _) (by simp; omega)
  · simp
theorem bodyF_le (b : Bs) (f : Fd) : (bodyF b f).length ≤ b.length := Nat.le_trans (trimF_le _) (linesOf_text_le _ _ _)
theorem loop66 (b : Bs) (l : List Ln) (hl : l.length ≤ 1000000) (hb : b.length ≤ 1000000) (hsum : (l.flatMap (lineT b)).length ≤ 1000000) (a : Bs) (p q r : Int) : ∀ (n i : Nat), l.length - i = n → i ≤ l.length →
    Evt (fun k j => L66 (callN cfg k) j (ofBytes b) (l.map lnV) (l.length : Nat) (i : Nat) a p q r (ofBytes ((l.take i).flatMap (lineT b)))) (.str (trimF (l.flatMap (lineT b))), [])
  | 0, i, h, hi => by
    have hil : i = l.length := by omega
    subst hil
    rw [List.take_length]
    refine N66_0 (ofBytes b) (l.map lnV) (l.length : Nat) (l.length : Nat) a p q r (ofBytes (l.flatMap (lineT b))) ?_
    have h1 : ¬ ((l.length : Int) < (l.length : Int)) := by omega
    have h92 : Ret 92 [.ref 0 0] [.cells [.opt 0 0, .lst 5 true (ofBytes (l.flatMap (lineT b)))]] (.str (l.flatMap (lineT b)), [.cells [.opt 0 0, .lst 5 false (ofBytes (l.flatMap (lineT b)))]]) := by
      refine ret_hand (h := Go.Ev.textF) (by kernel_rfl) ?_
      have h2 := byteV_ofBytes (l.flatMap (lineT b))
      have h3 : (ofBytes (l.flatMap (lineT b))).length < 1099511627776 := by rw [ofBytes_length]; omega
      simp only [Go.Ev.textF, h2, h3, decide_true, Bool.and_self, if_true, bytesOf_ofBytes]
    simp only [T66_0, h1, decide_false, Bool.false_eq_true, if_false]
    refine evt_bind h92 ?_
    simp only [V.getS]
    refine evt_bind (ret87 (l.flatMap (lineT b)) (by omega)) ?_
    exact evt_some _
  | n + 1, i, h, hi => by
    have hlt : i < l.length := by omega
    refine N66_0 (ofBytes b) (l.map lnV) (l.length : Nat) (i : Nat) a p q r (ofBytes ((l.take i).flatMap (lineT b))) ?_
    have h1 : ((i : Int) < (l.length : Int)) := by omega
    have h2 : (0 : Int) ≤ (i : Int) := by omega
    have hw : IntKind.wrap .i64 ((i : Int) + 1) = ((i + 1 : Nat) : Int) := by rw [wrap64 (by omega) (by omega)]; omega
    have h57 : Ret 57 [.lst 5 false (ofBytes b), .agg [.int .i64 (l[i].1 : Nat), .int .i64 (l[i].2.1 : Nat), .int .i64 (l[i].2.2 : Nat)]] [] (.str (lineT b l[i]), []) := ret57 b l[i]
    have htake : (l.take (i + 1)).flatMap (lineT b) = (l.take i).flatMap (lineT b) ++ lineT b l[i] := by
      rw [List.take_add_one, List.getElem?_eq_getElem hlt, Option.toList_some, List.flatMap_append]
      simp only [List.flatMap_cons, List.flatMap_nil, List.append_nil]
    have hle : ((l.take (i + 1)).flatMap (lineT b)).length ≤ 1000000 := by
      have e : l.flatMap (lineT b) = (l.take (i + 1)).flatMap (lineT b) ++ (l.drop (i + 1)).flatMap (lineT b) := by rw [← List.flatMap_append, List.take_append_drop]
      rw [e, List.length_append] at hsum; omega
    simp only [T66_0, h1, decide_true, if_true, chk_p h2, List.length_map, chk_t, Int.toNat_natCast, getD_ln hlt, lnV, V.cells, List.headD_cons, List.tail_cons, V.getI, hw]
    refine evt_bind h57 ?_
    simp only [V.getS]
    refine evt_bind (ret91 ((l.take i).flatMap (lineT b)) (lineT b l[i]) (by rw [htake, List.length_append] at hle; omega)) ?_
    simp only [List.headD_cons, Ob.getC, List.tail_cons, V.getL]
    rw [← htake]
    exact loop66 b l hl hb hsum a p q r n (i + 1) (by omega) (by omega)
theorem ret66 (b : Bs) (hb : b.length ≤ 1000000) (f : Fd) : Ret 66 [.lst 5 false (ofBytes b), fdV f] [] (.str (bodyF b f), []) := by
  obtain ⟨a, p, q, r⟩ := f
  refine M66 (ofBytes b) a p q r ?_
  simp only [T66]
  refine evt_bind (ret55 b hb q r) ?_
  have h1 := linesOf_length q r b
  have h2 := linesOf_text_le q r b
  simp only [V.getL, List.length_map]
  have := loop66 b (linesOf q r b) (by omega) hb (by omega) a p q r (linesOf q r b).length 0 (by omega) (by omega)
  simp only [List.take_zero, List.flatMap_nil] at this
  exact this
def valueF (b : Bs) (l : List Fd) (name : Bs) : Bs := match findFd l name with | some f => bodyF b f | none => []
theorem valueF_le (b : Bs) (l : List Fd) (name : Bs) : (valueF b l name).length ≤ b.length := by
  unfold valueF
  split
  · exact bodyF_le b _
  · simp
theorem ret61 (b : Bs) (hb : b.length ≤ 1000000) (l : List Fd) (hl : l.length ≤ 1000000) (hv : ∀ f ∈ l, f.1.length ≤ 1000000) (name : Bs) (hn : name.length ≤ 1000000) :
    Ret 61 [.lst 5 false (ofBytes b), .lst 109 false (l.map fdV), .str name] [] (.str (valueF b l name), []) := by
  refine M61 (ofBytes b) (l.map fdV) name ?_
  simp only [T61]
  refine evt_bind (ret64 l hl hv name hn) ?_
  unfold valueF
  cases findFd l name with
  | none =>
    simp only [fdTold, V.getT, List.tail_cons, List.headD_cons, V.getB, Bool.not_false, if_true]
    exact evt_some _
  | some f =>
    have h66 : Ret 66 [.lst 5 false (ofBytes b), .agg [.str f.1, .int .i64 f.2.1, .int .i64 f.2.2.1, .int .i64 f.2.2.2]] [] (.str (bodyF b f), []) := ret66 b hb f
    simp only [fdTold, V.getT, List.tail_cons, List.headD_cons, V.getB, Bool.not_true, Bool.false_eq_true, if_false, fdV, V.cells, V.getS, V.getI]
    refine evt_bind h66 ?_
    exact evt_some _
end Go.Proofs.YtemgbdncidgoiaaDoor
end
section
namespace Go.Proofs.YtemgbdncidgoiaaDoor
open Go.Ev Go
open List (headD tail getD length drop take)
open V (getI getL getT getS getB)
set_option maxRecDepth 100000
variable (call : FuncId → Fun) (icall : ICall (V × List Ob)) (again : List It → St → Option (V × List Ob))
def T40 (call : FuncId → Fun) (a0 : List V) (a1 : Int) (a2 : List V) (a3 : Bool) : Option (V × List Ob) :=
 Option.bind (call 61 [(V.lst 5 false a0), (V.lst 109 false a2), (V.str [99, 111, 110, 116, 101, 110, 116, 45, 116, 121, 112, 101])] []) fun z0 =>
 Option.bind (call 60 [(V.str (getS z0.1)), (V.bool true)] []) fun z1 =>
 if (getB (headD (tail (getT z1.1)) V.bot)) = true then
 some ((V.agg [(V.str (getS (headD (V.cells (headD (getT z1.1) V.bot)) V.bot))), (V.str (getS (headD (tail (V.cells (headD (getT z1.1) V.bot))) V.bot))), (V.lst 116 false (getL (headD (tail (tail (V.cells (headD (getT z1.1) V.bot)))) V.bot)))]), [(Ob.cells [(V.lst 5 false a0), (V.int .i64 a1)])])
 else
 if a3 = true then
 some ((V.agg [(V.str [109, 101, 115, 115, 97, 103, 101]), (V.str [114, 102, 99, 56, 50, 50]), (V.lst 116 false [])]), [(Ob.cells [(V.lst 5 false a0), (V.int .i64 a1)])])
 else
 some ((V.agg [(V.str [116, 101, 120, 116]), (V.str [112, 108, 97, 105, 110]), (V.lst 116 false [])]), [(Ob.cells [(V.lst 5 false a0), (V.int .i64 a1)])])
def O40 (a0 : List V) (a1 : Int) : List Ob := [Ob.cells [V.lst 5 false a0, V.int IntKind.i64 a1]]
def A40 (a2 : List V) (a3 : Bool) : List V := [V.ref 0 0, V.lst 109 false a2, V.bool a3]
theorem E40 (a0 : List V) (a1 : Int) (a2 : List V) (a3 : Bool) : GO 40 Tryd.f40 (A40 a2 a3) (O40 a0 a1) call icall again = T40 call a0 a1 a2 a3 := by kernel_rfl
theorem C40 (k : Nat) (a0 : List V) (a1 : Int) (a2 : List V) (a3 : Bool) : callN cfg (k + 1) 40 (A40 a2 a3) (O40 a0 a1) = T40 (callN cfg k) a0 a1 a2 a3 :=
 (show callN cfg (k + 1) 40 (A40 a2 a3) (O40 a0 a1) = GO 40 Tryd.f40 (A40 a2 a3) (O40 a0 a1) (callN cfg k) (icallN cfg (callN cfg k) 20) (RN 40 Tryd.f40 (O40 a0 a1) (callN cfg k) (icallN cfg (callN cfg k) 20) k) by kernel_rfl).trans (E40 _ _ _ a0 a1 a2 a3)
theorem M40 (a0 : List V) (a1 : Int) (a2 : List V) (a3 : Bool) {r : V × List Ob} (h : Evt (fun k n => T40 (callN cfg k) a0 a1 a2 a3) r) : Ret 40 [V.ref 0 0, V.lst 109 false a2, V.bool a3] [Ob.cells [V.lst 5 false a0, V.int IntKind.i64 a1]] r := ret_mk (g := fun k n => T40 (callN cfg k) a0 a1 a2 a3) (fun k => C40 k a0 a1 a2 a3) h
def T42_0 (call : FuncId → Fun) (ag0 : List UInt8 → List V → Int → List V → Int → Int → List V → Int → Int → Int → Int → Int → Int → Int → Option (V × List Ob)) (s0 : List UInt8) (l1 : List V) (i2 : Int) (l3 : List V) (i4 : Int) (i5 : Int) (l6 : List V) (i7 : Int) (i8 : Int) (i9 : Int) (i10 : Int) (i11 : Int) (i12 : Int) (i13 : Int) : Option (V × List Ob) :=
 if (decide (i5 < i4)) = true then
 chk (decide (0 ≤ i5)) (chk (decide (i5 < ((length l3 : Nat) : Int))) (Option.bind (call 57 [(V.lst 5 false l6), (V.agg [(V.int .i64 (getI (headD (V.cells (getD l3 (Int.toNat i5) V.bot)) V.bot))), (V.int .i64 (getI (headD (tail (V.cells (getD l3 (Int.toNat i5) V.bot))) V.bot))), (V.int .i64 (getI (headD (tail (tail (V.cells (getD l3 (Int.toNat i5) V.bot)))) V.bot)))])] []) fun z0 =>
 Option.bind (call 63 [(V.str (getS z0.1)), (V.str s0)] []) fun z1 =>
 if (!(getB (headD (getT z1.1) V.bot))) = true then
 (ag0 (s0) (l1) ((getI (headD (tail (V.cells (getD l3 (Int.toNat i5) V.bot))) V.bot))) (l3) (i4) ((IntKind.wrap .i64 (i5 + (1 : Int)))) (l6) (i7) (i8) (i9) (i10) (i11) (i12) (i13))
 else
 if (getB (headD (tail (getT z1.1)) V.bot)) = true then
 some ((V.tup [(V.lst 24 false l1), (V.agg [(V.int .i64 i2), (V.int .i64 (getI (headD (tail (tail (V.cells (getD l3 (Int.toNat i5) V.bot)))) V.bot)))]), (V.bool (decide (((length l1 : Nat) : Int) > (0 : Int))))]), [(Ob.cells [(V.lst 5 false l6), (V.int .i64 i7)])])
 else
 chk (appOk l1 [(V.agg [(V.int .i64 i2), (V.int .i64 (getI (headD (tail (tail (V.cells (getD l3 (Int.toNat i5) V.bot)))) V.bot)))])] 17) ((ag0 (s0) ((l1 ++ [(V.agg [(V.int .i64 i2), (V.int .i64 (getI (headD (tail (tail (V.cells (getD l3 (Int.toNat i5) V.bot)))) V.bot)))])])) ((getI (headD (tail (tail (V.cells (getD l3 (Int.toNat i5) V.bot)))) V.bot))) (l3) (i4) ((IntKind.wrap .i64 (i5 + (1 : Int)))) (l6) (i7) (i8) (i9) (i10) (i11) (i12) (i13)))))
 else
 some ((V.tup [(V.lst 24 false l1), (V.agg [(V.int .i64 i12), (V.int .i64 i13)]), (V.bool (decide (((length l1 : Nat) : Int) > (0 : Int))))]), [(Ob.cells [(V.lst 5 false l6), (V.int .i64 i7)])])
def T42 (call : FuncId → Fun) (ag0 : List UInt8 → List V → Int → List V → Int → Int → List V → Int → Int → Int → Int → Int → Int → Int → Option (V × List Ob)) (a0 : List V) (a1 : Int) (a2 : Int) (a3 : Int) (a4 : List UInt8) : Option (V × List Ob) :=
 Option.bind (call 55 [(V.lst 5 false a0), (V.agg [(V.int .i64 a2), (V.int .i64 a3)])] []) fun z0 =>
 (ag0 (a4) ([]) (a2) ((getL z0.1)) (((length (getL z0.1) : Nat) : Int)) ((0 : Int)) (a0) (a1) (a2) (a3) ((0 : Int)) ((0 : Int)) (a3) (a3))
def O42 (a0 : List V) (a1 : Int) : List Ob := [Ob.cells [V.lst 5 false a0, V.int IntKind.i64 a1]]
def A42 (a2 : Int) (a3 : Int) (a4 : List UInt8) : List V := [V.ref 0 0, V.agg [V.int IntKind.i64 a2, V.int IntKind.i64 a3], V.str a4]
def K42_0 (s0 : List UInt8) (l1 : List V) (i2 : Int) (l3 : List V) (i4 : Int) (i5 : Int) (l6 : List V) (i7 : Int) (i8 : Int) (i9 : Int) (i10 : Int) (i11 : Int) (i12 : Int) (i13 : Int) : St := ⟨[(V.ref 0 0), V.bot, (V.str s0), V.bot, V.bot, V.bot, V.bot, (V.ref 2 0), V.bot, (V.lst 24 true l1), (V.ref 3 0), (V.int IntKind.i64 i2), V.bot, V.bot, V.bot, V.bot, V.bot, V.bot, V.bot, V.bot, V.bot, V.bot, V.bot, V.bot, V.bot, V.bot, V.bot, V.bot, V.bot, (V.lst 104 false l3), (V.int IntKind.i64 i4), (V.int IntKind.i64 i5)] ++ List.replicate 42 V.bot, [(Ob.cells [(V.lst 5 false l6), (V.int IntKind.i64 i7)]), (Ob.cells [(V.int IntKind.i64 i8), (V.int IntKind.i64 i9)]), (Ob.cells [(V.int IntKind.i64 i10), (V.int IntKind.i64 i11)]), (Ob.cells [(V.int IntKind.i64 i12), (V.int IntKind.i64 i13)])]⟩
theorem S42_0 (a0 : List V) (a1 : Int) (s0 : List UInt8) (l1 : List V) (i2 : Int) (l3 : List V) (i4 : Int) (i5 : Int) (l6 : List V) (i7 : Int) (i8 : Int) (i9 : Int) (i10 : Int) (i11 : Int) (i12 : Int) (i13 : Int) :
 RM 42 Tryd.f42 (O42 a0 a1) call icall again (tdOf Tryd.f42 0) (K42_0 s0 l1 i2 l3 i4 i5 l6 i7 i8 i9 i10 i11 i12 i13) = T42_0 call (fun s0 l1 i2 l3 i4 i5 l6 i7 i8 i9 i10 i11 i12 i13 => again (tdOf Tryd.f42 0) (K42_0 s0 l1 i2 l3 i4 i5 l6 i7 i8 i9 i10 i11 i12 i13)) s0 l1 i2 l3 i4 i5 l6 i7 i8 i9 i10 i11 i12 i13 := by kernel_rfl
theorem E42 (a0 : List V) (a1 : Int) (a2 : Int) (a3 : Int) (a4 : List UInt8) : GO 42 Tryd.f42 (A42 a2 a3 a4) (O42 a0 a1) call icall again = T42 call (fun s0 l1 i2 l3 i4 i5 l6 i7 i8 i9 i10 i11 i12 i13 => again (tdOf Tryd.f42 0) (K42_0 s0 l1 i2 l3 i4 i5 l6 i7 i8 i9 i10 i11 i12 i13)) a0 a1 a2 a3 a4 := by kernel_rfl
def L42 (call : FuncId → Fun) : Nat → (List UInt8 → List V → Int → List V → Int → Int → List V → Int → Int → Int → Int → Int → Int → Int → Option (V × List Ob))
 | 0 => fun _ _ _ _ _ _ _ _ _ _ _ _ _ _ => none
 | n + 1 => T42_0 call (L42 call n)
theorem R42 (call : FuncId → Fun) (icall : ICall (V × List Ob)) (a0 : List V) (a1 : Int) : ∀ n, (∀ (s0 : List UInt8) (l1 : List V) (i2 : Int) (l3 : List V) (i4 : Int) (i5 : Int) (l6 : List V) (i7 : Int) (i8 : Int) (i9 : Int) (i10 : Int) (i11 : Int) (i12 : Int) (i13 : Int), RN 42 Tryd.f42 (O42 a0 a1) call icall n (tdOf Tryd.f42 0) (K42_0 s0 l1 i2 l3 i4 i5 l6 i7 i8 i9 i10 i11 i12 i13) = (L42 call n) s0 l1 i2 l3 i4 i5 l6 i7 i8 i9 i10 i11 i12 i13)
  | 0 => fun s0 l1 i2 l3 i4 i5 l6 i7 i8 i9 i10 i11 i12 i13 => rfl
  | n + 1 => by
    have ih := R42 call icall a0 a1 n
    exact fun s0 l1 i2 l3 i4 i5 l6 i7 i8 i9 i10 i11 i12 i13 => (S42_0 call icall (RN 42 Tryd.f42 (O42 a0 a1) call icall n) a0 a1 s0 l1 i2 l3 i4 i5 l6 i7 i8 i9 i10 i11 i12 i13).trans (by rw [show (fun s0 l1 i2 l3 i4 i5 l6 i7 i8 i9 i10 i11 i12 i13 => RN 42 Tryd.f42 (O42 a0 a1) call icall n (tdOf Tryd.f42 0) (K42_0 s0 l1 i2 l3 i4 i5 l6 i7 i8 i9 i10 i11 i12 i13)) = (L42 call n) from (funext fun s0 => funext fun l1 => funext fun i2 => funext fun l3 => funext fun i4 => funext fun i5 => funext fun l6 => funext fun i7 => funext fun i8 => funext fun i9 => funext fun i10 => funext fun i11 => funext fun i12 => funext fun i13 => ih s0 l1 i2 l3 i4 i5 l6 i7 i8 i9 i10 i11 i12 i13)]; rfl)
theorem C42 (k : Nat) (a0 : List V) (a1 : Int) (a2 : Int) (a3 : Int) (a4 : List UInt8) : callN cfg (k + 1) 42 (A42 a2 a3 a4) (O42 a0 a1) = T42 (callN cfg k) (L42 (callN cfg k) k) a0 a1 a2 a3 a4 := by
 have ih := R42 (callN cfg k) (icallN cfg (callN cfg k) 20) a0 a1 k
 refine (show callN cfg (k + 1) 42 (A42 a2 a3 a4) (O42 a0 a1) = GO 42 Tryd.f42 (A42 a2 a3 a4) (O42 a0 a1) (callN cfg k) (icallN cfg (callN cfg k) 20) (RN 42 Tryd.f42 (O42 a0 a1) (callN cfg k) (icallN cfg (callN cfg k) 20) k) by kernel_rfl).trans ((E42 _ _ _ a0 a1 a2 a3 a4).trans ?_)
 rw [show (fun s0 l1 i2 l3 i4 i5 l6 i7 i8 i9 i10 i11 i12 i13 => RN 42 Tryd.f42 (O42 a0 a1) (callN cfg k) (icallN cfg (callN cfg k) 20) k (tdOf Tryd.f42 0) (K42_0 s0 l1 i2 l3 i4 i5 l6 i7 i8 i9 i10 i11 i12 i13)) = (L42 (callN cfg k) k) from (funext fun s0 => funext fun l1 => funext fun i2 => funext fun l3 => funext fun i4 => funext fun i5 => funext fun l6 => funext fun i7 => funext fun i8 => funext fun i9 => funext fun i10 => funext fun i11 => funext fun i12 => funext fun i13 => ih s0 l1 i2 l3 i4 i5 l6 i7 i8 i9 i10 i11 i12 i13)]
theorem M42 (a0 : List V) (a1 : Int) (a2 : Int) (a3 : Int) (a4 : List UInt8) {r : V × List Ob} (h : Evt (fun k n => T42 (callN cfg k) (L42 (callN cfg k) n) a0 a1 a2 a3 a4) r) : Ret 42 [V.ref 0 0, V.agg [V.int IntKind.i64 a2, V.int IntKind.i64 a3], V.str a4] [Ob.cells [V.lst 5 false a0, V.int IntKind.i64 a1]] r := ret_mk (g := fun k n => T42 (callN cfg k) (L42 (callN cfg k) n) a0 a1 a2 a3 a4) (fun k => C42 k a0 a1 a2 a3 a4) h
theorem N42_0 (s0 : List UInt8) (l1 : List V) (i2 : Int) (l3 : List V) (i4 : Int) (i5 : Int) (l6 : List V) (i7 : Int) (i8 : Int) (i9 : Int) (i10 : Int) (i11 : Int) (i12 : Int) (i13 : Int) {r : V × List Ob} (h : Evt (fun k n => T42_0 (callN cfg k) (L42 (callN cfg k) n) s0 l1 i2 l3 i4 i5 l6 i7 i8 i9 i10 i11 i12 i13) r) : Evt (fun k n => (L42 (callN cfg k) n) s0 l1 i2 l3 i4 i5 l6 i7 i8 i9 i10 i11 i12 i13) r := evt_step (fun k n => rfl) h
def T43_0 (call : FuncId → Fun) (ag0 : Int → Bool → List V → Int → Int → List V → Int → Int → Int → Int → Int → Int → List V → List V → Int → Int → Option (V × List Ob)) (i0 : Int) (b1 : Bool) (l2 : List V) (i3 : Int) (i4 : Int) (l5 : List V) (i6 : Int) (i7 : Int) (i8 : Int) (i9 : Int) (i10 : Int) (i11 : Int) (l12 : List V) (l13 : List V) (i14 : Int) (i15 : Int) : Option (V × List Ob) :=
 if (decide (i4 < i3)) = true then
 chk (decide (0 ≤ i4)) (chk (decide (i4 < ((length l2 : Nat) : Int))) (if (decide ((IntKind.wrap .i64 (i4 + (1 : Int))) < ((length l13 : Nat) : Int))) = true then
 chk (decide (0 ≤ (IntKind.wrap .i64 (i4 + (1 : Int))))) (chk (decide ((IntKind.wrap .i64 (i4 + (1 : Int))) < ((length l13 : Nat) : Int))) (Option.bind (call 31 [(V.ref 0 0), (V.agg [(V.int .i64 (getI (headD (tail (V.cells (getD l2 (Int.toNat i4) V.bot))) V.bot))), (V.int .i64 (if (getI (headD (tail (V.cells (getD l2 (Int.toNat i4) V.bot))) V.bot)) > (getI (headD (V.cells (getD l13 (Int.toNat (IntKind.wrap .i64 (i4 + (1 : Int)))) V.bot)) V.bot)) then (getI (headD (tail (V.cells (getD l2 (Int.toNat i4) V.bot))) V.bot)) else (getI (headD (V.cells (getD l13 (Int.toNat (IntKind.wrap .i64 (i4 + (1 : Int)))) V.bot)) V.bot))))]), (V.int .i64 i0), (V.bool b1)] [(Ob.cells [(V.lst 5 false l5), (V.int .i64 i6)])]) fun z0 =>
 chk (((length l12 : Nat) : Int) == ((length l12 : Nat) : Int)) (chk (appOk l12 [(V.agg [(V.int .i64 (getI (headD (V.cells z0.1) V.bot))), (V.int .i64 (getI (headD (tail (V.cells z0.1)) V.bot))), (V.int .i64 (getI (headD (tail (tail (V.cells z0.1))) V.bot))), (V.int .i64 (getI (headD (tail (tail (tail (V.cells z0.1)))) V.bot))), (V.int .i64 (getI (headD (tail (tail (tail (tail (V.cells z0.1))))) V.bot))), (V.lst 28 false (getL (headD (tail (tail (tail (tail (tail (V.cells z0.1)))))) V.bot))), (V.lst 24 false (getL (headD (tail (tail (tail (tail (tail (tail (V.cells z0.1))))))) V.bot))), (V.int .i64 (getI (headD (tail (tail (tail (tail (tail (tail (tail (V.cells z0.1)))))))) V.bot))), (V.int .i64 (getI (headD (tail (tail (tail (tail (tail (tail (tail (tail (V.cells z0.1))))))))) V.bot)))])] 105) ((ag0 (i0) (b1) (l2) (i3) ((IntKind.wrap .i64 (i4 + (1 : Int)))) ((getL (headD (Ob.getC (headD z0.2 Ob.dead)) V.bot))) ((getI (headD (tail (Ob.getC (headD z0.2 Ob.dead))) V.bot))) (i7) (i8) (i9) (i10) (i11) ((l12 ++ [(V.agg [(V.int .i64 (getI (headD (V.cells z0.1) V.bot))), (V.int .i64 (getI (headD (tail (V.cells z0.1)) V.bot))), (V.int .i64 (getI (headD (tail (tail (V.cells z0.1))) V.bot))), (V.int .i64 (getI (headD (tail (tail (tail (V.cells z0.1)))) V.bot))), (V.int .i64 (getI (headD (tail (tail (tail (tail (V.cells z0.1))))) V.bot))), (V.lst 28 false (getL (headD (tail (tail (tail (tail (tail (V.cells z0.1)))))) V.bot))), (V.lst 24 false (getL (headD (tail (tail (tail (tail (tail (tail (V.cells z0.1))))))) V.bot))), (V.int .i64 (getI (headD (tail (tail (tail (tail (tail (tail (tail (V.cells z0.1)))))))) V.bot))), (V.int .i64 (getI (headD (tail (tail (tail (tail (tail (tail (tail (tail (V.cells z0.1))))))))) V.bot)))])])) (l13) (i14) (i15))))))
 else
 Option.bind (call 31 [(V.ref 0 0), (V.agg [(V.int .i64 (getI (headD (tail (V.cells (getD l2 (Int.toNat i4) V.bot))) V.bot))), (V.int .i64 (if (getI (headD (tail (V.cells (getD l2 (Int.toNat i4) V.bot))) V.bot)) > i14 then (getI (headD (tail (V.cells (getD l2 (Int.toNat i4) V.bot))) V.bot)) else i14))]), (V.int .i64 i0), (V.bool b1)] [(Ob.cells [(V.lst 5 false l5), (V.int .i64 i6)])]) fun z0 =>
 chk (((length l12 : Nat) : Int) == ((length l12 : Nat) : Int)) (chk (appOk l12 [(V.agg [(V.int .i64 (getI (headD (V.cells z0.1) V.bot))), (V.int .i64 (getI (headD (tail (V.cells z0.1)) V.bot))), (V.int .i64 (getI (headD (tail (tail (V.cells z0.1))) V.bot))), (V.int .i64 (getI (headD (tail (tail (tail (V.cells z0.1)))) V.bot))), (V.int .i64 (getI (headD (tail (tail (tail (tail (V.cells z0.1))))) V.bot))), (V.lst 28 false (getL (headD (tail (tail (tail (tail (tail (V.cells z0.1)))))) V.bot))), (V.lst 24 false (getL (headD (tail (tail (tail (tail (tail (tail (V.cells z0.1))))))) V.bot))), (V.int .i64 (getI (headD (tail (tail (tail (tail (tail (tail (tail (V.cells z0.1)))))))) V.bot))), (V.int .i64 (getI (headD (tail (tail (tail (tail (tail (tail (tail (tail (V.cells z0.1))))))))) V.bot)))])] 105) ((ag0 (i0) (b1) (l2) (i3) ((IntKind.wrap .i64 (i4 + (1 : Int)))) ((getL (headD (Ob.getC (headD z0.2 Ob.dead)) V.bot))) ((getI (headD (tail (Ob.getC (headD z0.2 Ob.dead))) V.bot))) (i7) (i8) (i9) (i10) (i11) ((l12 ++ [(V.agg [(V.int .i64 (getI (headD (V.cells z0.1) V.bot))), (V.int .i64 (getI (headD (tail (V.cells z0.1)) V.bot))), (V.int .i64 (getI (headD (tail (tail (V.cells z0.1))) V.bot))), (V.int .i64 (getI (headD (tail (tail (tail (V.cells z0.1)))) V.bot))), (V.int .i64 (getI (headD (tail (tail (tail (tail (V.cells z0.1))))) V.bot))), (V.lst 28 false (getL (headD (tail (tail (tail (tail (tail (V.cells z0.1)))))) V.bot))), (V.lst 24 false (getL (headD (tail (tail (tail (tail (tail (tail (V.cells z0.1))))))) V.bot))), (V.int .i64 (getI (headD (tail (tail (tail (tail (tail (tail (tail (V.cells z0.1)))))))) V.bot))), (V.int .i64 (getI (headD (tail (tail (tail (tail (tail (tail (tail (tail (V.cells z0.1))))))))) V.bot)))])])) (l13) (i14) (i15))))))
 else
 some ((V.tup []), [(Ob.cells [(V.lst 5 false l5), (V.int .i64 i6)]), (Ob.cells [(V.int .i64 i7), (V.int .i64 i8), (V.int .i64 i9), (V.int .i64 i10), (V.int .i64 i11), (V.lst 28 true l12), (V.lst 24 false l13), (V.int .i64 i14), (V.int .i64 i15)])])
def T43 (call : FuncId → Fun) (ag0 : Int → Bool → List V → Int → Int → List V → Int → Int → Int → Int → Int → Int → List V → List V → Int → Int → Option (V × List Ob)) (a0 : List V) (a1 : Int) (a2 : Int) (a3 : Int) (a4 : Int) (a5 : Int) (a6 : Int) (a7 : List V) (a8 : List V) (a9 : Int) (a10 : Int) (a11 : Int) (a12 : Bool) : Option (V × List Ob) :=
 (ag0 (a11) (a12) (a8) (((length a8 : Nat) : Int)) ((0 : Int)) (a0) (a1) (a2) (a3) (a4) (a5) (a6) (a7) (a8) (a9) (a10))
def O43 (a0 : List V) (a1 : Int) (a2 : Int) (a3 : Int) (a4 : Int) (a5 : Int) (a6 : Int) (a7 : List V) (a8 : List V) (a9 : Int) (a10 : Int) : List Ob := [Ob.cells [V.lst 5 false a0, V.int IntKind.i64 a1], Ob.cells [V.int IntKind.i64 a2, V.int IntKind.i64 a3, V.int IntKind.i64 a4, V.int IntKind.i64 a5, V.int IntKind.i64 a6, V.lst 28 true a7, V.lst 24 false a8, V.int IntKind.i64 a9, V.int IntKind.i64 a10]]
def A43 (a11 : Int) (a12 : Bool) : List V := [V.ref 0 0, V.ref 1 0, V.int IntKind.i64 a11, V.bool a12]
def K43_0 (i0 : Int) (b1 : Bool) (l2 : List V) (i3 : Int) (i4 : Int) (l5 : List V) (i6 : Int) (i7 : Int) (i8 : Int) (i9 : Int) (i10 : Int) (i11 : Int) (l12 : List V) (l13 : List V) (i14 : Int) (i15 : Int) : St := ⟨[(V.ref 0 0), (V.ref 1 0), (V.int IntKind.i64 i0), (V.bool b1), V.bot, V.bot, V.bot, V.bot, V.bot, V.bot, V.bot, V.bot, V.bot, V.bot, (V.lst 24 false l2), (V.int IntKind.i64 i3), (V.int IntKind.i64 i4)] ++ List.replicate 48 V.bot, [(Ob.cells [(V.lst 5 false l5), (V.int IntKind.i64 i6)]), (Ob.cells [(V.int IntKind.i64 i7), (V.int IntKind.i64 i8), (V.int IntKind.i64 i9), (V.int IntKind.i64 i10), (V.int IntKind.i64 i11), (V.lst 28 true l12), (V.lst 24 false l13), (V.int IntKind.i64 i14), (V.int IntKind.i64 i15)])]⟩
theorem S43_0 (a0 : List V) (a1 : Int) (a2 : Int) (a3 : Int) (a4 : Int) (a5 : Int) (a6 : Int) (a7 : List V) (a8 : List V) (a9 : Int) (a10 : Int) (i0 : Int) (b1 : Bool) (l2 : List V) (i3 : Int) (i4 : Int) (l5 : List V) (i6 : Int) (i7 : Int) (i8 : Int) (i9 : Int) (i10 : Int) (i11 : Int) (l12 : List V) (l13 : List V) (i14 : Int) (i15 : Int) :
 RM 43 Tryd.f43 (O43 a0 a1 a2 a3 a4 a5 a6 a7 a8 a9 a10) call icall again (tdOf Tryd.f43 0) (K43_0 i0 b1 l2 i3 i4 l5 i6 i7 i8 i9 i10 i11 l12 l13 i14 i15) = T43_0 call (fun i0 b1 l2 i3 i4 l5 i6 i7 i8 i9 i10 i11 l12 l13 i14 i15 => again (tdOf Tryd.f43 0) (K43_0 i0 b1 l2 i3 i4 l5 i6 i7 i8 i9 i10 i11 l12 l13 i14 i15)) i0 b1 l2 i3 i4 l5 i6 i7 i8 i9 i10 i11 l12 l13 i14 i15 := by kernel_rfl
theorem E43 (a0 : List V) (a1 : Int) (a2 : Int) (a3 : Int) (a4 : Int) (a5 : Int) (a6 : Int) (a7 : List V) (a8 : List V) (a9 : Int) (a10 : Int) (a11 : Int) (a12 : Bool) : GO 43 Tryd.f43 (A43 a11 a12) (O43 a0 a1 a2 a3 a4 a5 a6 a7 a8 a9 a10) call icall again = T43 call (fun i0 b1 l2 i3 i4 l5 i6 i7 i8 i9 i10 i11 l12 l13 i14 i15 => again (tdOf Tryd.f43 0) (K43_0 i0 b1 l2 i3 i4 l5 i6 i7 i8 i9 i10 i11 l12 l13 i14 i15)) a0 a1 a2 a3 a4 a5 a6 a7 a8 a9 a10 a11 a12 := by kernel_rfl
def L43 (call : FuncId → Fun) : Nat → (Int → Bool → List V → Int → Int → List V → Int → Int → Int → Int → Int → Int → List V → List V → Int → Int → Option (V × List Ob))
 | 0 => fun _ _ _ _ _ _ _ _ _ _ _ _ _ _ _ _ => none
 | n + 1 => T43_0 call (L43 call n)
theorem R43 (call : FuncId → Fun) (icall : ICall (V × List Ob)) (a0 : List V) (a1 : Int) (a2 : Int) (a3 : Int) (a4 : Int) (a5 : Int) (a6 : Int) (a7 : List V) (a8 : List V) (a9 : Int) (a10 : Int) : ∀ n, (∀ (i0 : Int) (b1 : Bool) (l2 : List V) (i3 : Int) (i4 : Int) (l5 : List V) (i6 : Int) (i7 : Int) (i8 : Int) (i9 : Int) (i10 : Int) (i11 : Int) (l12 : List V) (l13 : List V) (i14 : Int) (i15 : Int), RN 43 Tryd.f43 (O43 a0 a1 a2 a3 a4 a5 a6 a7 a8 a9 a10) call icall n (tdOf Tryd.f43 0) (K43_0 i0 b1 l2 i3 i4 l5 i6 i7 i8 i9 i10 i11 l12 l13 i14 i15) = (L43 call n) i0 b1 l2 i3 i4 l5 i6 i7 i8 i9 i10 i11 l12 l13 i14 i15)
  | 0 => fun i0 b1 l2 i3 i4 l5 i6 i7 i8 i9 i10 i11 l12 l13 i14 i15 => rfl
  | n + 1 => by
    have ih := R43 call icall a0 a1 a2 a3 a4 a5 a6 a7 a8 a9 a10 n
    exact fun i0 b1 l2 i3 i4 l5 i6 i7 i8 i9 i10 i11 l12 l13 i14 i15 => (S43_0 call icall (RN 43 Tryd.f43 (O43 a0 a1 a2 a3 a4 a5 a6 a7 a8 a9 a10) call icall n) a0 a1 a2 a3 a4 a5 a6 a7 a8 a9 a10 i0 b1 l2 i3 i4 l5 i6 i7 i8 i9 i10 i11 l12 l13 i14 i15).trans (by rw [show (fun i0 b1 l2 i3 i4 l5 i6 i7 i8 i9 i10 i11 l12 l13 i14 i15 => RN 43 Tryd.f43 (O43 a0 a1 a2 a3 a4 a5 a6 a7 a8 a9 a10) call icall n (tdOf Tryd.f43 0) (K43_0 i0 b1 l2 i3 i4 l5 i6 i7 i8 i9 i10 i11 l12 l13 i14 i15)) = (L43 call n) from (funext fun i0 => funext fun b1 => funext fun l2 => funext fun i3 => funext fun i4 => funext fun l5 => funext fun i6 => funext fun i7 => funext fun i8 => funext fun i9 => funext fun i10 => funext fun i11 => funext fun l12 => funext fun l13 => funext fun i14 => funext fun i15 => ih i0 b1 l2 i3 i4 l5 i6 i7 i8 i9 i10 i11 l12 l13 i14 i15)]; rfl)
theorem C43 (k : Nat) (a0 : List V) (a1 : Int) (a2 : Int) (a3 : Int) (a4 : Int) (a5 : Int) (a6 : Int) (a7 : List V) (a8 : List V) (a9 : Int) (a10 : Int) (a11 : Int) (a12 : Bool) : callN cfg (k + 1) 43 (A43 a11 a12) (O43 a0 a1 a2 a3 a4 a5 a6 a7 a8 a9 a10) = T43 (callN cfg k) (L43 (callN cfg k) k) a0 a1 a2 a3 a4 a5 a6 a7 a8 a9 a10 a11 a12 := by
 have ih := R43 (callN cfg k) (icallN cfg (callN cfg k) 20) a0 a1 a2 a3 a4 a5 a6 a7 a8 a9 a10 k
 refine (show callN cfg (k + 1) 43 (A43 a11 a12) (O43 a0 a1 a2 a3 a4 a5 a6 a7 a8 a9 a10) = GO 43 Tryd.f43 (A43 a11 a12) (O43 a0 a1 a2 a3 a4 a5 a6 a7 a8 a9 a10) (callN cfg k) (icallN cfg (callN cfg k) 20) (RN 43 Tryd.f43 (O43 a0 a1 a2 a3 a4 a5 a6 a7 a8 a9 a10) (callN cfg k) (icallN cfg (callN cfg k) 20) k) by kernel_rfl).trans ((E43 _ _ _ a0 a1 a2 a3 a4 a5 a6 a7 a8 a9 a10 a11 a12).trans ?_)
 rw [show (fun i0 b1 l2 i3 i4 l5 i6 i7 i8 i9 i10 i11 l12 l13 i14 i15 => RN 43 Tryd.f43 (O43 a0 a1 a2 a3 a4 a5 a6 a7 a8 a9 a10) (callN cfg k) (icallN cfg (callN cfg k) 20) k (tdOf Tryd.f43 0) (K43_0 i0 b1 l2 i3 i4 l5 i6 i7 i8 i9 i10 i11 l12 l13 i14 i15)) = (L43 (callN cfg k) k) from (funext fun i0 => funext fun b1 => funext fun l2 => funext fun i3 => funext fun i4 => funext fun l5 => funext fun i6 => funext fun i7 => funext fun i8 => funext fun i9 => funext fun i10 => funext fun i11 => funext fun l12 => funext fun l13 => funext fun i14 => funext fun i15 => ih i0 b1 l2 i3 i4 l5 i6 i7 i8 i9 i10 i11 l12 l13 i14 i15)]
theorem M43 (a0 : List V) (a1 : Int) (a2 : Int) (a3 : Int) (a4 : Int) (a5 : Int) (a6 : Int) (a7 : List V) (a8 : List V) (a9 : Int) (a10 : Int) (a11 : Int) (a12 : Bool) {r : V × List Ob} (h : Evt (fun k n => T43 (callN cfg k) (L43 (callN cfg k) n) a0 a1 a2 a3 a4 a5 a6 a7 a8 a9 a10 a11 a12) r) : Ret 43 [V.ref 0 0, V.ref 1 0, V.int IntKind.i64 a11, V.bool a12] [Ob.cells [V.lst 5 false a0, V.int IntKind.i64 a1], Ob.cells [V.int IntKind.i64 a2, V.int IntKind.i64 a3, V.int IntKind.i64 a4, V.int IntKind.i64 a5, V.int IntKind.i64 a6, V.lst 28 true a7, V.lst 24 false a8, V.int IntKind.i64 a9, V.int IntKind.i64 a10]] r := ret_mk (g := fun k n => T43 (callN cfg k) (L43 (callN cfg k) n) a0 a1 a2 a3 a4 a5 a6 a7 a8 a9 a10 a11 a12) (fun k => C43 k a0 a1 a2 a3 a4 a5 a6 a7 a8 a9 a10 a11 a12) h
theorem N43_0 (i0 : Int) (b1 : Bool) (l2 : List V) (i3 : Int) (i4 : Int) (l5 : List V) (i6 : Int) (i7 : Int) (i8 : Int) (i9 : Int) (i10 : Int) (i11 : Int) (l12 : List V) (l13 : List V) (i14 : Int) (i15 : Int) {r : V × List Ob} (h : Evt (fun k n => T43_0 (callN cfg k) (L43 (callN cfg k) n) i0 b1 l2 i3 i4 l5 i6 i7 i8 i9 i10 i11 l12 l13 i14 i15) r) : Evt (fun k n => (L43 (callN cfg k) n) i0 b1 l2 i3 i4 l5 i6 i7 i8 i9 i10 i11 l12 l13 i14 i15) r := evt_step (fun k n => rfl) h
def T44 (call : FuncId → Fun) (a0 : List V) (a1 : Int) (a2 : List V) : Option (V × List Ob) :=
 Option.bind (call 64 [(V.lst 109 false a2), (V.str [99, 111, 110, 116, 101, 110, 116, 45, 116, 114, 97, 110, 115, 102, 101, 114, 45, 101, 110, 99, 111, 100, 105, 110, 103])] []) fun z0 =>
 if (!(getB (headD (tail (getT z0.1)) V.bot))) = true then
 some ((V.bool true), [(Ob.cells [(V.lst 5 false a0), (V.int .i64 a1)])])
 else
 Option.bind (call 66 [(V.lst 5 false a0), (V.agg [(V.str (getS (headD (V.cells (headD (getT z0.1) V.bot)) V.bot))), (V.int .i64 (getI (headD (tail (V.cells (headD (getT z0.1) V.bot))) V.bot))), (V.int .i64 (getI (headD (tail (tail (V.cells (headD (getT z0.1) V.bot)))) V.bot))), (V.int .i64 (getI (headD (tail (tail (tail (V.cells (headD (getT z0.1) V.bot))))) V.bot)))])] []) fun z1 =>
 Option.bind (call 65 [(V.str (getS z1.1))] []) fun z2 =>
 if (sEq (getS z2.1) [55, 98, 105, 116]) = true then
 some ((V.bool true), [(Ob.cells [(V.lst 5 false a0), (V.int .i64 a1)])])
 else
 if (sEq (getS z2.1) [56, 98, 105, 116]) = true then
 some ((V.bool true), [(Ob.cells [(V.lst 5 false a0), (V.int .i64 a1)])])
 else
 if (sEq (getS z2.1) [98, 105, 110, 97, 114, 121]) = true then
 some ((V.bool true), [(Ob.cells [(V.lst 5 false a0), (V.int .i64 a1)])])
 else
 some ((V.bool false), [(Ob.cells [(V.lst 5 false a0), (V.int .i64 a1)])])
def O44 (a0 : List V) (a1 : Int) : List Ob := [Ob.cells [V.lst 5 false a0, V.int IntKind.i64 a1]]
def A44 (a2 : List V) : List V := [V.ref 0 0, V.lst 109 false a2]
theorem E44 (a0 : List V) (a1 : Int) (a2 : List V) : GO 44 Tryd.f44 (A44 a2) (O44 a0 a1) call icall again = T44 call a0 a1 a2 := by kernel_rfl
theorem C44 (k : Nat) (a0 : List V) (a1 : Int) (a2 : List V) : callN cfg (k + 1) 44 (A44 a2) (O44 a0 a1) = T44 (callN cfg k) a0 a1 a2 :=
 (show callN cfg (k + 1) 44 (A44 a2) (O44 a0 a1) = GO 44 Tryd.f44 (A44 a2) (O44 a0 a1) (callN cfg k) (icallN cfg (callN cfg k) 20) (RN 44 Tryd.f44 (O44 a0 a1) (callN cfg k) (icallN cfg (callN cfg k) 20) k) by kernel_rfl).trans (E44 _ _ _ a0 a1 a2)
theorem M44 (a0 : List V) (a1 : Int) (a2 : List V) {r : V × List Ob} (h : Evt (fun k n => T44 (callN cfg k) a0 a1 a2) r) : Ret 44 [V.ref 0 0, V.lst 109 false a2] [Ob.cells [V.lst 5 false a0, V.int IntKind.i64 a1]] r := ret_mk (g := fun k n => T44 (callN cfg k) a0 a1 a2) (fun k => C44 k a0 a1 a2) h
def T31 (call : FuncId → Fun) (a0 : List V) (a1 : Int) (a2 : Int) (a3 : Int) (a4 : Int) (a5 : Bool) : Option (V × List Ob) :=
 Option.bind (call 39 [(V.lst 5 false a0), (V.agg [(V.int .i64 a2), (V.int .i64 a3)])] []) fun z0 =>
 if (a4 == (32 : Int)) = true then
 some ((V.agg [(V.int .i64 0), (V.int .i64 a2), (V.int .i64 (getI (headD (tail (getT z0.1)) V.bot))), (V.int .i64 (getI (headD (tail (getT z0.1)) V.bot))), (V.int .i64 a3), (V.lst 28 false []), (V.lst 24 false []), (V.int .i64 0), (V.int .i64 0)]), [(Ob.cells [(V.lst 5 false a0), (V.int .i64 a1)])])
 else
 Option.bind (call 40 [(V.ref 0 0), (V.lst 109 false (getL (headD (getT z0.1) V.bot))), (V.bool a5)] [(Ob.cells [(V.lst 5 false a0), (V.int .i64 a1)])]) fun z1 =>
 Option.bind (call 41 [(V.agg [(V.str (getS (headD (V.cells z1.1) V.bot))), (V.str (getS (headD (tail (V.cells z1.1)) V.bot))), (V.lst 116 false (getL (headD (tail (tail (V.cells z1.1))) V.bot)))]), (V.str [98, 111, 117, 110, 100, 97, 114, 121])] []) fun z2 =>
 Option.bind (if (sEq (getS (headD (V.cells z1.1) V.bot)) [109, 117, 108, 116, 105, 112, 97, 114, 116]) = true then
 if (!(sEq (getS (headD (getT z2.1) V.bot)) [])) = true then
 some (decide (((length (getS (headD (getT z2.1) V.bot)) : Nat) : Int) ≤ (70 : Int)))
 else
 some false
 else
 some false) fun y3 =>
 if y3 = true then
 Option.bind (call 42 [(V.ref 0 0), (V.agg [(V.int .i64 (getI (headD (tail (getT z0.1)) V.bot))), (V.int .i64 a3)]), (V.str (getS (headD (getT z2.1) V.bot)))] [(Ob.cells [(V.lst 5 false (getL (headD (Ob.getC (headD z1.2 Ob.dead)) V.bot))), (V.int .i64 (getI (headD (tail (Ob.getC (headD z1.2 Ob.dead))) V.bot)))])]) fun z4 =>
 Option.bind (if (getB (headD (tail (tail (getT z4.1))) V.bot)) = true then
 some (decide ((IntKind.wrap .i64 ((getI (headD (tail (Ob.getC (headD z4.2 Ob.dead))) V.bot)) + ((length (getL (headD (getT z4.1) V.bot)) : Nat) : Int))) ≤ (1000 : Int)))
 else
 some false) fun y5 =>
 if y5 = true then
 Option.bind (call 43 [(V.ref 0 0), (V.ref 1 0), (V.int .i64 (IntKind.wrap .i64 (a4 + (1 : Int)))), (V.bool (sEq (getS (headD (tail (V.cells z1.1)) V.bot)) [100, 105, 103, 101, 115, 116]))] [(Ob.cells [(V.lst 5 false (getL (headD (Ob.getC (headD z4.2 Ob.dead)) V.bot))), (V.int .i64 (IntKind.wrap .i64 ((getI (headD (tail (Ob.getC (headD z4.2 Ob.dead))) V.bot)) + ((length (getL (headD (getT z4.1) V.bot)) : Nat) : Int))))]), (Ob.cells [(V.int .i64 1), (V.int .i64 a2), (V.int .i64 (getI (headD (tail (getT z0.1)) V.bot))), (V.int .i64 (getI (headD (tail (getT z0.1)) V.bot))), (V.int .i64 a3), (V.lst 28 true []), (V.lst 24 false (getL (headD (getT z4.1) V.bot))), (V.int .i64 (getI (headD (V.cells (headD (tail (getT z4.1)) V.bot)) V.bot))), (V.int .i64 (getI (headD (tail (V.cells (headD (tail (getT z4.1)) V.bot))) V.bot)))])]) fun z6 =>
 some ((V.agg [(V.int .i64 (getI (headD (Ob.getC (headD (tail z6.2) Ob.dead)) V.bot))), (V.int .i64 (getI (headD (tail (Ob.getC (headD (tail z6.2) Ob.dead))) V.bot))), (V.int .i64 (getI (headD (tail (tail (Ob.getC (headD (tail z6.2) Ob.dead)))) V.bot))), (V.int .i64 (getI (headD (tail (tail (tail (Ob.getC (headD (tail z6.2) Ob.dead))))) V.bot))), (V.int .i64 (getI (headD (tail (tail (tail (tail (Ob.getC (headD (tail z6.2) Ob.dead)))))) V.bot))), (V.lst 28 false (getL (headD (tail (tail (tail (tail (tail (Ob.getC (headD (tail z6.2) Ob.dead))))))) V.bot))), (V.lst 24 false (getL (headD (tail (tail (tail (tail (tail (tail (Ob.getC (headD (tail z6.2) Ob.dead)))))))) V.bot))), (V.int .i64 (getI (headD (tail (tail (tail (tail (tail (tail (tail (Ob.getC (headD (tail z6.2) Ob.dead))))))))) V.bot))), (V.int .i64 (getI (headD (tail (tail (tail (tail (tail (tail (tail (tail (Ob.getC (headD (tail z6.2) Ob.dead)))))))))) V.bot)))]), [(Ob.cells [(V.lst 5 false (getL (headD (Ob.getC (headD z6.2 Ob.dead)) V.bot))), (V.int .i64 (getI (headD (tail (Ob.getC (headD z6.2 Ob.dead))) V.bot)))])])
 else
 some ((V.agg [(V.int .i64 0), (V.int .i64 a2), (V.int .i64 (getI (headD (tail (getT z0.1)) V.bot))), (V.int .i64 (getI (headD (tail (getT z0.1)) V.bot))), (V.int .i64 a3), (V.lst 28 false []), (V.lst 24 false []), (V.int .i64 0), (V.int .i64 0)]), [(Ob.cells [(V.lst 5 false (getL (headD (Ob.getC (headD z4.2 Ob.dead)) V.bot))), (V.int .i64 (getI (headD (tail (Ob.getC (headD z4.2 Ob.dead))) V.bot)))])])
 else
 if (sEq (getS (headD (V.cells z1.1) V.bot)) [109, 101, 115, 115, 97, 103, 101]) = true then
 if (sEq (getS (headD (tail (V.cells z1.1)) V.bot)) [114, 102, 99, 56, 50, 50]) = true then
 Option.bind (call 44 [(V.ref 0 0), (V.lst 109 false (getL (headD (getT z0.1) V.bot)))] [(Ob.cells [(V.lst 5 false (getL (headD (Ob.getC (headD z1.2 Ob.dead)) V.bot))), (V.int .i64 (getI (headD (tail (Ob.getC (headD z1.2 Ob.dead))) V.bot)))])]) fun z4 =>
 if (getB z4.1) = true then
 if (decide ((getI (headD (tail (Ob.getC (headD z4.2 Ob.dead))) V.bot)) < (1000 : Int))) = true then
 Option.bind (call 31 [(V.ref 0 0), (V.agg [(V.int .i64 (getI (headD (tail (getT z0.1)) V.bot))), (V.int .i64 a3)]), (V.int .i64 (IntKind.wrap .i64 (a4 + (1 : Int)))), (V.bool false)] [(Ob.cells [(V.lst 5 false (getL (headD (Ob.getC (headD z4.2 Ob.dead)) V.bot))), (V.int .i64 (IntKind.wrap .i64 ((getI (headD (tail (Ob.getC (headD z4.2 Ob.dead))) V.bot)) + (1 : Int))))])]) fun z5 =>
 some ((V.agg [(V.int .i64 2), (V.int .i64 a2), (V.int .i64 (getI (headD (tail (getT z0.1)) V.bot))), (V.int .i64 (getI (headD (tail (getT z0.1)) V.bot))), (V.int .i64 a3), (V.lst 28 false [(V.agg [(V.int .i64 (getI (headD (V.cells z5.1) V.bot))), (V.int .i64 (getI (headD (tail (V.cells z5.1)) V.bot))), (V.int .i64 (getI (headD (tail (tail (V.cells z5.1))) V.bot))), (V.int .i64 (getI (headD (tail (tail (tail (V.cells z5.1)))) V.bot))), (V.int .i64 (getI (headD (tail (tail (tail (tail (V.cells z5.1))))) V.bot))), (V.lst 28 false (getL (headD (tail (tail (tail (tail (tail (V.cells z5.1)))))) V.bot))), (V.lst 24 false (getL (headD (tail (tail (tail (tail (tail (tail (V.cells z5.1))))))) V.bot))), (V.int .i64 (getI (headD (tail (tail (tail (tail (tail (tail (tail (V.cells z5.1)))))))) V.bot))), (V.int .i64 (getI (headD (tail (tail (tail (tail (tail (tail (tail (tail (V.cells z5.1))))))))) V.bot)))])]), (V.lst 24 false []), (V.int .i64 0), (V.int .i64 0)]), [(Ob.cells [(V.lst 5 false (getL (headD (Ob.getC (headD z5.2 Ob.dead)) V.bot))), (V.int .i64 (getI (headD (tail (Ob.getC (headD z5.2 Ob.dead))) V.bot)))])])
 else
 some ((V.agg [(V.int .i64 0), (V.int .i64 a2), (V.int .i64 (getI (headD (tail (getT z0.1)) V.bot))), (V.int .i64 (getI (headD (tail (getT z0.1)) V.bot))), (V.int .i64 a3), (V.lst 28 false []), (V.lst 24 false []), (V.int .i64 0), (V.int .i64 0)]), [(Ob.cells [(V.lst 5 false (getL (headD (Ob.getC (headD z4.2 Ob.dead)) V.bot))), (V.int .i64 (getI (headD (tail (Ob.getC (headD z4.2 Ob.dead))) V.bot)))])])
 else
 some ((V.agg [(V.int .i64 0), (V.int .i64 a2), (V.int .i64 (getI (headD (tail (getT z0.1)) V.bot))), (V.int .i64 (getI (headD (tail (getT z0.1)) V.bot))), (V.int .i64 a3), (V.lst 28 false []), (V.lst 24 false []), (V.int .i64 0), (V.int .i64 0)]), [(Ob.cells [(V.lst 5 false (getL (headD (Ob.getC (headD z4.2 Ob.dead)) V.bot))), (V.int .i64 (getI (headD (tail (Ob.getC (headD z4.2 Ob.dead))) V.bot)))])])
 else
 some ((V.agg [(V.int .i64 0), (V.int .i64 a2), (V.int .i64 (getI (headD (tail (getT z0.1)) V.bot))), (V.int .i64 (getI (headD (tail (getT z0.1)) V.bot))), (V.int .i64 a3), (V.lst 28 false []), (V.lst 24 false []), (V.int .i64 0), (V.int .i64 0)]), [(Ob.cells [(V.lst 5 false (getL (headD (Ob.getC (headD z1.2 Ob.dead)) V.bot))), (V.int .i64 (getI (headD (tail (Ob.getC (headD z1.2 Ob.dead))) V.bot)))])])
 else
 some ((V.agg [(V.int .i64 0), (V.int .i64 a2), (V.int .i64 (getI (headD (tail (getT z0.1)) V.bot))), (V.int .i64 (getI (headD (tail (getT z0.1)) V.bot))), (V.int .i64 a3), (V.lst 28 false []), (V.lst 24 false []), (V.int .i64 0), (V.int .i64 0)]), [(Ob.cells [(V.lst 5 false (getL (headD (Ob.getC (headD z1.2 Ob.dead)) V.bot))), (V.int .i64 (getI (headD (tail (Ob.getC (headD z1.2 Ob.dead))) V.bot)))])])
def O31 (a0 : List V) (a1 : Int) : List Ob := [Ob.cells [V.lst 5 false a0, V.int IntKind.i64 a1]]
def A31 (a2 : Int) (a3 : Int) (a4 : Int) (a5 : Bool) : List V := [V.ref 0 0, V.agg [V.int IntKind.i64 a2, V.int IntKind.i64 a3], V.int IntKind.i64 a4, V.bool a5]
theorem E31 (a0 : List V) (a1 : Int) (a2 : Int) (a3 : Int) (a4 : Int) (a5 : Bool) : GO 31 Tryd.f31 (A31 a2 a3 a4 a5) (O31 a0 a1) call icall again = T31 call a0 a1 a2 a3 a4 a5 := by kernel_rfl
theorem C31 (k : Nat) (a0 : List V) (a1 : Int) (a2 : Int) (a3 : Int) (a4 : Int) (a5 : Bool) : callN cfg (k + 1) 31 (A31 a2 a3 a4 a5) (O31 a0 a1) = T31 (callN cfg k) a0 a1 a2 a3 a4 a5 :=
 (show callN cfg (k + 1) 31 (A31 a2 a3 a4 a5) (O31 a0 a1) = GO 31 Tryd.f31 (A31 a2 a3 a4 a5) (O31 a0 a1) (callN cfg k) (icallN cfg (callN cfg k) 20) (RN 31 Tryd.f31 (O31 a0 a1) (callN cfg k) (icallN cfg (callN cfg k) 20) k) by kernel_rfl).trans (E31 _ _ _ a0 a1 a2 a3 a4 a5)
theorem M31 (a0 : List V) (a1 : Int) (a2 : Int) (a3 : Int) (a4 : Int) (a5 : Bool) {r : V × List Ob} (h : Evt (fun k n => T31 (callN cfg k) a0 a1 a2 a3 a4 a5) r) : Ret 31 [V.ref 0 0, V.agg [V.int IntKind.i64 a2, V.int IntKind.i64 a3], V.int IntKind.i64 a4, V.bool a5] [Ob.cells [V.lst 5 false a0, V.int IntKind.i64 a1]] r := ret_mk (g := fun k n => T31 (callN cfg k) a0 a1 a2 a3 a4 a5) (fun k => C31 k a0 a1 a2 a3 a4 a5) h
def T15 (call : FuncId → Fun) (a0 : List V) : Option (V × List Ob) :=
 if (decide (((length a0 : Nat) : Int) > (67108864 : Int))) = true then
 some ((V.tup [(V.agg [(V.int .i64 0), (V.int .i64 0), (V.int .i64 0), (V.int .i64 0), (V.int .i64 0), (V.lst 28 false []), (V.lst 24 false []), (V.int .i64 0), (V.int .i64 0)]), (V.int .i64 13)]), [])
 else
 Option.bind (call 31 [(V.ref 0 0), (V.agg [(V.int .i64 0), (V.int .i64 ((length a0 : Nat) : Int))]), (V.int .i64 0), (V.bool false)] [(Ob.cells [(V.lst 5 false a0), (V.int .i64 1)])]) fun z0 =>
 some ((V.tup [(V.agg [(V.int .i64 (getI (headD (V.cells z0.1) V.bot))), (V.int .i64 (getI (headD (tail (V.cells z0.1)) V.bot))), (V.int .i64 (getI (headD (tail (tail (V.cells z0.1))) V.bot))), (V.int .i64 (getI (headD (tail (tail (tail (V.cells z0.1)))) V.bot))), (V.int .i64 (getI (headD (tail (tail (tail (tail (V.cells z0.1))))) V.bot))), (V.lst 28 false (getL (headD (tail (tail (tail (tail (tail (V.cells z0.1)))))) V.bot))), (V.lst 24 false (getL (headD (tail (tail (tail (tail (tail (tail (V.cells z0.1))))))) V.bot))), (V.int .i64 (getI (headD (tail (tail (tail (tail (tail (tail (tail (V.cells z0.1)))))))) V.bot))), (V.int .i64 (getI (headD (tail (tail (tail (tail (tail (tail (tail (tail (V.cells z0.1))))))))) V.bot)))]), (V.int .i64 0)]), [])
def A15 (a0 : List V) : List V := [V.lst 5 false a0]
theorem E15 (a0 : List V) : GO 15 Tryd.f15 (A15 a0) [] call icall again = T15 call a0 := by kernel_rfl
theorem C15 (k : Nat) (a0 : List V) : callN cfg (k + 1) 15 (A15 a0) [] = T15 (callN cfg k) a0 :=
 (show callN cfg (k + 1) 15 (A15 a0) [] = GO 15 Tryd.f15 (A15 a0) [] (callN cfg k) (icallN cfg (callN cfg k) 20) (RN 15 Tryd.f15 [] (callN cfg k) (icallN cfg (callN cfg k) 20) k) by kernel_rfl).trans (E15 _ _ _ a0)
theorem M15 (a0 : List V) {r : V × List Ob} (h : Evt (fun k n => T15 (callN cfg k) a0) r) : Ret 15 [V.lst 5 false a0] [] r := ret_mk (g := fun k n => T15 (callN cfg k) a0) (fun k => C15 k a0) h
end Go.Proofs.YtemgbdncidgoiaaDoor
end
section
namespace Go.Proofs.YtemgbdncidgoiaaDoor
open Go.Ev Go
def blankS (s : Bs) : Bool := trimF s == []
def delimF (text bd : Bs) : Bool × Bool :=
  if text.length < 2 + bd.length ∨ text.take (2 + bd.length) ≠ [45, 45] ++ bd then (false, false) else
  if blankS (text.drop (2 + bd.length)) then (true, false) else
  if 2 ≤ (text.drop (2 + bd.length)).length ∧ (text.drop (2 + bd.length)).take 2 = [45, 45] ∧ blankS ((text.drop (2 + bd.length)).drop 2) = true then (true, true) else (false, false)
theorem ret86 (s : Bs) (hs : s.length ≤ 1000000) : Ret 86 [.str s] [] (.bool (blankS s), []) := by
  refine M86 s ?_
  simp only [T86]
  refine evt_bind (ret87 s (by omega)) ?_
  exact evt_some _
theorem ret63 (text bd : Bs) (ht : text.length ≤ 1000000) (hb : bd.length ≤ 1000000) : Ret 63 [.str text, .str bd] [] (.tup [.bool (delimF text bd).1, .bool (delimF text bd).2], []) := by
  refine M63 text bd ?_
  have hw : IntKind.wrap .i64 ((2 : Int) + (bd.length : Int)) = ((2 + bd.length : Nat) : Int) := by rw [wrap64 (by omega) (by omega)]; omega
  have h0 : (0 : Int) ≤ ((2 + bd.length : Nat) : Int) := by omega
  have hc : catOk [45, 45] bd = true := cat_ok (by simp; omega)
  simp only [T63, hw]
  unfold delimF
  by_cases h1 : text.length < 2 + bd.length
  · have h1' : (text.length : Int) < ((2 + bd.length : Nat) : Int) := by omega
    simp only [h1', decide_true, Bool.true_eq_false, if_false, bind_s, if_true, h1, true_or]
    exact evt_some _
  · have h1' : ¬ ((text.length : Int) < ((2 + bd.length : Nat) : Int)) := by omega
    have h2 : ((2 + bd.length : Nat) : Int) ≤ (text.length : Int) := by omega
    simp only [h1', decide_false, if_true, chk_p h0, chk_p h2, chk_p (show (0 : Int) ≤ 0 by omega), chk_b hc, Int.toNat_zero, Int.toNat_natCast, List.drop_zero, bind_s, h1, false_or]
    by_cases h3 : text.take (2 + bd.length) = [45, 45] ++ bd
    · have h3' : sEq (text.take (2 + bd.length)) ([45, 45] ++ bd) = true := by simp [sEq, h3]
      simp only [h3', Bool.not_true, Bool.false_eq_true, if_false]
      simp only [h3, ne_eq, not_true_eq_false, if_false]
      have hr : (text.drop (2 + bd.length)).length ≤ 1000000 := by simp; omega
      obtain ⟨rest, hrest⟩ : ∃ rest, text.drop (2 + bd.length) = rest := ⟨_, rfl⟩
      simp only [hrest] at hr ⊢
      refine evt_bind (ret86 rest hr) ?_
      simp only [V.getB]
      by_cases h4 : blankS rest = true
      · simp only [h4, if_true]; exact evt_some _
      · have h4' : blankS rest = false := by simpa using h4
        simp only [h4', Bool.false_eq_true, if_false]
        by_cases h5 : 2 ≤ rest.length
        · have h5' : ((rest.length : Int) ≥ (2 : Int)) := by omega
          have h5'' : ((2 : Int) ≤ (rest.length : Int)) := by omega
          simp only [h5', decide_true, if_true, chk_p (show (0 : Int) ≤ 2 by omega), chk_p h5'', chk_p (show (0 : Int) ≤ 0 by omega), Int.toNat_zero, List.drop_zero, h5, true_and, show Int.toNat 2 = 2 from rfl, chk_t]
          by_cases h6 : rest.take 2 = [45, 45]
          · have h6' : sEq (rest.take 2) [45, 45] = true := by simp [sEq, h6]
            simp only [h6', if_true, h6, true_and]
            refine evt_bind (ret86 (rest.drop 2) (by simp; omega)) ?_
            simp only [V.getB]
            by_cases h7 : blankS (rest.drop 2) = true
            · simp only [h7, if_true]; exact evt_some _
            · have h7' : blankS (rest.drop 2) = false := by simpa using h7
              simp only [h7', Bool.false_eq_true, if_false]; exact evt_some _
          · have h6' : sEq (rest.take 2) [45, 45] = false := by simp [sEq, h6]
            simp only [h6', Bool.false_eq_true, if_false, h6, false_and]; exact evt_some _
        · have h5' : ¬ ((rest.length : Int) ≥ (2 : Int)) := by omega
          simp only [h5', decide_false, Bool.false_eq_true, if_false, h5, false_and]; exact evt_some _
    · have h3' : sEq (text.take (2 + bd.length)) ([45, 45] ++ bd) = false := beq_eq_false_iff_ne.2 h3
      simp only [h3', Bool.not_false, if_true]
      simp only [h3, ne_eq, not_false_eq_true, if_true]
      exact evt_some _
end Go.Proofs.YtemgbdncidgoiaaDoor
end
section
namespace Go.Proofs.YtemgbdncidgoiaaDoor
open Go.Ev Go
def cutV (p : Nat × Nat) : V := .agg [.int .i64 p.1, .int .i64 p.2]
def cutsG (b bd : Bs) : List Ln → List (Nat × Nat) → Nat → List (Nat × Nat) × Option (Nat × Nat)
  | [], out, _ => (out, none)
  | l :: r, out, from_ =>
    if (delimF (lineT b l) bd).1 = false then cutsG b bd r out l.2.1
    else if (delimF (lineT b l) bd).2 then (out, some (from_, l.2.2)) else cutsG b bd r (out ++ [(from_, l.2.2)]) l.2.2
def cutsF (b : Bs) (fr to : Nat) (bd : Bs) : List (Nat × Nat) × (Nat × Nat) := ((cutsG b bd (linesOf fr to b) [] fr).1, (cutsG b bd (linesOf fr to b) [] fr).2.getD (to, to))
def objB (b : Bs) (n : Int) : List Ob := [.cells [.lst 5 false (ofBytes b), .int .i64 n]]
theorem loop42 (b bd : Bs) (hb : b.length ≤ 1000000) (hbd : bd.length ≤ 1000000) (nn : Int) (l : List Ln) (hl : l.length ≤ 1000000) (c d e f : Int) (fr to : Nat) : ∀ (n i : Nat) (out : List (Nat × Nat)) (from_ : Nat), l.length - i = n → i ≤ l.length → out.length ≤ i →
    Evt (fun k j => L42 (callN cfg k) j bd (out.map cutV) (from_ : Nat) (l.map lnV) (l.length : Nat) (i : Nat) (ofBytes b) nn c d e f (to : Nat) (to : Nat))
      (.tup [.lst 24 false ((cutsG b bd (l.drop i) out from_).1.map cutV), cutV ((cutsG b bd (l.drop i) out from_).2.getD (to, to)), .bool (decide (0 < (cutsG b bd (l.drop i) out from_).1.length))], objB b nn)
  | 0, i, out, from_, h, hi, ho => by
    refine N42_0 bd (out.map cutV) (from_ : Nat) (l.map lnV) (l.length : Nat) (i : Nat) (ofBytes b) nn c d e f (to : Nat) (to : Nat) ?_
    have h1 : ¬ ((i : Int) < (l.length : Int)) := by omega
    have h2 : decide ((((out.map cutV).length : Nat) : Int) > (0 : Int)) = decide (0 < out.length) := by simp
    rw [List.drop_eq_nil_of_le (by omega)]
    simp only [T42_0, h1, decide_false, Bool.false_eq_true, if_false, cutsG, h2]
    exact evt_some _
  | n + 1, i, out, from_, h, hi, ho => by
    have hlt : i < l.length := by omega
    refine N42_0 bd (out.map cutV) (from_ : Nat) (l.map lnV) (l.length : Nat) (i : Nat) (ofBytes b) nn c d e f (to : Nat) (to : Nat) ?_
    have h1 : ((i : Int) < (l.length : Int)) := by omega
    have h2 : (0 : Int) ≤ (i : Int) := by omega
    have hw : IntKind.wrap .i64 ((i : Int) + 1) = ((i + 1 : Nat) : Int) := by rw [wrap64 (by omega) (by omega)]; omega
    have hd : l.drop i = l[i] :: l.drop (i + 1) := List.drop_eq_getElem_cons hlt
    have htl := lineT_le b l[i]
    have h57 : Ret 57 [.lst 5 false (ofBytes b), .agg [.int .i64 (l[i].1 : Nat), .int .i64 (l[i].2.1 : Nat), .int .i64 (l[i].2.2 : Nat)]] [] (.str (lineT b l[i]), []) := ret57 b l[i]
    rw [hd, cutsG]
    simp only [T42_0, h1, decide_true, if_true, chk_p h2, List.length_map, chk_t, Int.toNat_natCast, getD_ln hlt, lnV, V.cells, List.headD_cons, List.tail_cons, V.getI, hw]
    refine evt_bind h57 ?_
    simp only [V.getS]
    refine evt_bind (ret63 (lineT b l[i]) bd (by omega) hbd) ?_
    simp only [V.getT, List.headD_cons, List.tail_cons, V.getB]
    cases hd1 : (delimF (lineT b l[i]) bd).1 with
    | false =>
      simp only [Bool.not_false, if_true]
      exact loop42 b bd hb hbd nn l hl c d e f fr to n (i + 1) out l[i].2.1 (by omega) (by omega) (by omega)
    | true =>
      simp only [Bool.not_true, Bool.false_eq_true, if_false, Bool.true_eq_false]
      cases hd2 : (delimF (lineT b l[i]) bd).2 with
      | true =>
        have h3 : decide (((out.length : Nat) : Int) > (0 : Int)) = decide (0 < out.length) := by simp
        simp only [if_true, h3]
        exact evt_some _
      | false =>
        have hap : appOk (out.map cutV) [V.agg [.int .i64 (from_ : Nat), .int .i64 (l[i].2.2 : Nat)]] 17 = true := app_ok (by simp; omega)
        simp only [Bool.false_eq_true, if_false, chk_b hap]
        have := loop42 b bd hb hbd nn l hl c d e f fr to n (i + 1) (out ++ [(from_, l[i].2.2)]) l[i].2.2 (by omega) (by omega) (by simp; omega)
        simp only [List.map_append, List.map_cons, List.map_nil, cutV] at this
        exact this
theorem ret42 (b bd : Bs) (hb : b.length ≤ 1000000) (hbd : bd.length ≤ 1000000) (nn : Int) (fr to : Nat) :
    Ret 42 [.ref 0 0, .agg [.int .i64 (fr : Nat), .int .i64 (to : Nat)], .str bd] (objB b nn)
      (.tup [.lst 24 false ((cutsF b fr to bd).1.map cutV), cutV (cutsF b fr to bd).2, .bool (decide (0 < (cutsF b fr to bd).1.length))], objB b nn) := by
  refine M42 (ofBytes b) nn (fr : Nat) (to : Nat) bd ?_
  simp only [T42]
  refine evt_bind (ret55 b hb (fr : Nat) (to : Nat)) ?_
  have h1 := linesOf_length fr to b
  simp only [V.getL, List.length_map]
  exact loop42 b bd hb hbd nn (linesOf fr to b) (by omega) (fr : Nat) (to : Nat) 0 0 fr to (linesOf fr to b).length 0 [] fr (by omega) (by omega) (by simp)
def ctB : Bs := [99, 111, 110, 116, 101, 110, 116, 45, 116, 121, 112, 101]
def cteB : Bs := [99, 111, 110, 116, 101, 110, 116, 45, 116, 114, 97, 110, 115, 102, 101, 114, 45, 101, 110, 99, 111, 100, 105, 110, 103]
def kindF (b : Bs) (l : List Fd) (digest : Bool) : Bs × Bs × Ps :=
  match parseF (valueF b l ctB) true with
  | some p => p
  | none => if digest then ([109, 101, 115, 115, 97, 103, 101], [114, 102, 99, 56, 50, 50], []) else ([116, 101, 120, 116], [112, 108, 97, 105, 110], [])
theorem ret40 (b : Bs) (hb : b.length ≤ 1000000) (l : List Fd) (hl : l.length ≤ 1000000) (hv : ∀ f ∈ l, f.1.length ≤ 1000000) (digest : Bool) (nn : Int) :
    Ret 40 [.ref 0 0, .lst 109 false (l.map fdV), .bool digest] (objB b nn)
      (.agg [.str (kindF b l digest).1, .str (kindF b l digest).2.1, .lst 116 false ((kindF b l digest).2.2.map pV)], objB b nn) := by
  refine M40 (ofBytes b) nn (l.map fdV) digest ?_
  simp only [T40]
  refine evt_bind (ret61 b hb l hl hv ctB (by simp [ctB])) ?_
  have hle := valueF_le b l ctB
  simp only [V.getS]
  refine evt_bind (ret60 (valueF b l ctB) (by omega) true) ?_
  unfold kindF
  cases parseF (valueF b l ctB) true with
  | some p =>
    obtain ⟨t, u, ps⟩ := p
    simp only [parseV, V.getT, List.tail_cons, List.headD_cons, V.getB, if_true, V.cells, V.getS, V.getL]
    exact evt_some _
  | none =>
    simp only [parseV, V.getT, List.tail_cons, List.headD_cons, V.getB, Bool.false_eq_true, if_false]
    cases digest with
    | true => simp only [if_true]; exact evt_some _
    | false => simp only [Bool.false_eq_true, if_false]; exact evt_some _
def noneF (b : Bs) (l : List Fd) : Bool :=
  match findFd l cteB with
  | none => true
  | some f => low (bodyF b f) == [55, 98, 105, 116] || (low (bodyF b f) == [56, 98, 105, 116] || low (bodyF b f) == [98, 105, 110, 97, 114, 121])
theorem ret44 (b : Bs) (hb : b.length ≤ 1000000) (l : List Fd) (hl : l.length ≤ 1000000) (hv : ∀ f ∈ l, f.1.length ≤ 1000000) (nn : Int) :
    Ret 44 [.ref 0 0, .lst 109 false (l.map fdV)] (objB b nn) (.bool (noneF b l), objB b nn) := by
  refine M44 (ofBytes b) nn (l.map fdV) ?_
  simp only [T44]
  refine evt_bind (ret64 l hl hv cteB (by simp [cteB])) ?_
  unfold noneF
  cases findFd l cteB with
  | none =>
    simp only [fdTold, V.getT, List.tail_cons, List.headD_cons, V.getB, Bool.not_false, if_true]
    exact evt_some _
  | some f =>
    have h66 : Ret 66 [.lst 5 false (ofBytes b), .agg [.str f.1, .int .i64 f.2.1, .int .i64 f.2.2.1, .int .i64 f.2.2.2]] [] (.str (bodyF b f), []) := ret66 b hb f
    have hle := bodyF_le b f
    simp only [fdTold, V.getT, List.tail_cons, List.headD_cons, V.getB, Bool.not_true, Bool.false_eq_true, if_false, fdV, V.cells, V.getS, V.getI]
    refine evt_bind h66 ?_
    simp only [V.getS]
    refine evt_bind (ret65 (bodyF b f) (by omega)) ?_
    simp only [V.getS, sEq]
    unfold low
    by_cases h1 : ((bodyF b f).map low8 == [55, 98, 105, 116]) = true
    · simp only [h1, if_true, Bool.true_or]; exact evt_some _
    · have h1' : ((bodyF b f).map low8 == [55, 98, 105, 116]) = false := Bool.eq_false_iff.2 h1
      simp only [h1', Bool.false_eq_true, if_false, Bool.false_or]
      by_cases h2 : ((bodyF b f).map low8 == [56, 98, 105, 116]) = true
      · simp only [h2, if_true, Bool.true_or]; exact evt_some _
      · have h2' : ((bodyF b f).map low8 == [56, 98, 105, 116]) = false := Bool.eq_false_iff.2 h2
        simp only [h2', Bool.false_eq_true, if_false, Bool.false_or]
        by_cases h3 : ((bodyF b f).map low8 == [98, 105, 110, 97, 114, 121]) = true
        · simp only [h3, if_true]; exact evt_some _
        · have h3' : ((bodyF b f).map low8 == [98, 105, 110, 97, 114, 121]) = false := Bool.eq_false_iff.2 h3
          simp only [h3', Bool.false_eq_true, if_false]; exact evt_some _
end Go.Proofs.YtemgbdncidgoiaaDoor
end
section
namespace Go.Proofs.YtemgbdncidgoiaaDoor
open Go.Ev Go
inductive Pt
  | mk (kind : Nat) (head body : Nat × Nat) (kids : List Pt) (cuts : List (Nat × Nat)) (fin : Nat × Nat)
mutual
def partV : Pt → V
  | .mk k h b kids cuts e => .agg [.int .i64 (k : Nat), .int .i64 (h.1 : Nat), .int .i64 (h.2 : Nat), .int .i64 (b.1 : Nat), .int .i64 (b.2 : Nat), .lst 28 false (partVL kids), .lst 24 false (cuts.map cutV), .int .i64 (e.1 : Nat), .int .i64 (e.2 : Nat)]
def partVL : List Pt → List V
  | [] => []
  | p :: r => partV p :: partVL r
end
theorem partVL_eq : ∀ l : List Pt, partVL l = l.map partV
  | [] => rfl
  | p :: r => by rw [partVL, partVL_eq r]; rfl
def leafP (fr at_ to : Nat) : Pt := .mk 0 (fr, at_) (at_, to) [] [] (0, 0)
def bdB : Bs := [98, 111, 117, 110, 100, 97, 114, 121]
def mpB : Bs := [109, 117, 108, 116, 105, 112, 97, 114, 116]
def msgB : Bs := [109, 101, 115, 115, 97, 103, 101]
def rfcB : Bs := [114, 102, 99, 56, 50, 50]
def dgB : Bs := [100, 105, 103, 101, 115, 116]
def nextF (fin : Nat) : List (Nat × Nat) → Nat
  | [] => fin
  | d :: _ => d.1
def kidsF (ent : Nat → Nat → Nat → Pt × Nat) (fin : Nat) : List (Nat × Nat) → Nat → List Pt × Nat
  | [], n => ([], n)
  | c :: r, n =>
    ((ent c.2 (max (nextF fin r) c.2) n).1 :: (kidsF ent fin r (ent c.2 (max (nextF fin r) c.2) n).2).1, (kidsF ent fin r (ent c.2 (max (nextF fin r) c.2) n).2).2)
def entF (b : Bs) : Nat → Nat → Nat → Bool → Nat → Pt × Nat
  | 0, fr, to, _, n => (leafP fr (headF b fr to).2.toNat to, n)
  | d + 1, fr, to, dg, n =>
    let at_ := (headF b fr to).2.toNat
    let v := kindF b (headF b fr to).1 dg
    let bd := (getF v.2.2 bdB).getD []
    if v.1 = mpB ∧ bd ≠ [] ∧ bd.length ≤ 70 then
      let c := cutsF b at_ to bd
      if 0 < c.1.length ∧ n + c.1.length ≤ 1000 then
        let q := kidsF (fun fr to n => entF b d fr to (v.2.1 == dgB) n) c.2.1 c.1 (n + c.1.length)
        (.mk 1 (fr, at_) (at_, to) q.1 c.1 c.2, q.2)
      else (leafP fr at_ to, n)
    else if v.1 = msgB ∧ v.2.1 = rfcB ∧ noneF b (headF b fr to).1 = true ∧ n < 1000 then
      let k := entF b d at_ to false (n + 1)
      (.mk 2 (fr, at_) (at_, to) [k.1] [] (0, 0), k.2)
    else (leafP fr at_ to, n)
def FdOk (m : Nat) (f : Fd) : Prop := f.1.length ≤ m
theorem namedF_name {s : Bs} {p : Bs × Nat} (h : namedF s = some p) : p.1.length ≤ s.length := by
  unfold namedF at h
  split at h
  · cases h
  · split at h
    · cases h; simp only [List.length_take]; omega
    · cases h
theorem stepH_ok (b : Bs) (st : List Fd × Bool) (x : Ln) (h : ∀ f ∈ st.1, FdOk b.length f) : (∀ f ∈ (stepH b st x).1, FdOk b.length f) ∧ (stepH b st x).1.length ≤ st.1.length + 1 := by
  unfold stepH
  split
  · split
    · refine ⟨fun f hf => ?_, by simp only [setTo_length]; omega⟩
      unfold setTo at hf
      split at hf
      · rename_i g hg
        rcases List.mem_or_eq_of_mem_set hf with hf | rfl
        · exact h f hf
        · exact h g (List.mem_of_getElem? hg)
      · exact h f hf
    · exact ⟨h, by omega⟩
  · split
    · exact ⟨h, by simp⟩
    · rename_i p hp
      refine ⟨fun f hf => ?_, by simp⟩
      rw [List.mem_append] at hf
      rcases hf with hf | hf
      · exact h f hf
      · simp at hf; subst hf
        exact Nat.le_trans (namedF_name hp) (lineT_le b x)
theorem foldH_ok (b : Bs) : ∀ (l : List Ln) (st : List Fd × Bool), (∀ f ∈ st.1, FdOk b.length f) → (∀ f ∈ (l.foldl (stepH b) st).1, FdOk b.length f) ∧ (l.foldl (stepH b) st).1.length ≤ st.1.length + l.length
  | [], st, h => ⟨h, by simp⟩
  | x :: r, st, h => by
    obtain ⟨h1, h2⟩ := stepH_ok b st x h
    obtain ⟨h3, h4⟩ := foldH_ok b r (stepH b st x) h1
    exact ⟨h3, by simp only [List.foldl_cons, List.length_cons] at h4 ⊢; omega⟩
theorem headF_ok (b : Bs) (fr to : Int) : (∀ f ∈ (headF b fr to).1, f.1.length ≤ b.length) ∧ (headF b fr to).1.length ≤ b.length := by
  have hl := linesOf_length fr to b
  unfold headF
  split
  · simp
  · split
    · rename_i k hk
      obtain ⟨h1, h2⟩ := foldH_ok b ((linesOf fr to b).take k) ([], false) (by simp)
      exact ⟨h1, by simp at h2 ⊢; omega⟩
    · obtain ⟨h1, h2⟩ := foldH_ok b (linesOf fr to b) ([], false) (by simp)
      exact ⟨h1, by simp at h2 ⊢; omega⟩
theorem headF_at (b : Bs) (fr to : Nat) : (((headF b fr to).2.toNat : Nat) : Int) = (headF b fr to).2 := by
  unfold headF
  split
  · simp
  · split <;> simp
end Go.Proofs.YtemgbdncidgoiaaDoor
end
section
namespace Go.Proofs.YtemgbdncidgoiaaDoor
open Go.Ev Go
theorem parP_small (l : Ps) (m : Nat) : ∀ (q : Ps) (seen : List Bs), (∀ p ∈ q, p.1.length ≤ m) → (parP l seen q).length ≤ q.length ∧ ∀ p ∈ parP l seen q, p.1.length ≤ m
  | [], seen, _ => by simp [parP]
  | p :: r, seen, h => by
    have hp := h p (by simp)
    have hb := baseF_le p.1
    have ih := fun seen => parP_small l m r seen fun p hp => h p (by simp [hp])
    unfold parP
    split
    · obtain ⟨h1, h2⟩ := ih seen
      exact ⟨by simp; omega, h2⟩
    · split
      · obtain ⟨h1, h2⟩ := ih (baseF p.1 :: seen)
        refine ⟨by simp; omega, fun x hx => ?_⟩
        rcases List.mem_cons.1 hx with rfl | hx
        · simp only; omega
        · exact h2 x hx
      · obtain ⟨h1, h2⟩ := ih (baseF p.1 :: seen)
        exact ⟨by simp; omega, h2⟩
theorem parseF_small {s : Bs} {two : Bool} {t u : Bs} {ps : Ps} (h : parseF s two = some (t, u, ps)) : ps.length ≤ s.length ∧ ∀ p ∈ ps, p.1.length ≤ s.length := by
  have key : ∀ q : Bs, q.length ≤ s.length → (parP (pairsF q) [] (pairsF q)).length ≤ s.length ∧ ∀ p ∈ parP (pairsF q) [] (pairsF q), p.1.length ≤ s.length := by
    intro q hq
    obtain ⟨g1, g2⟩ := pairsF_small q.length q (Nat.le_refl _)
    obtain ⟨h1, h2⟩ := parP_small (pairsF q) s.length (pairsF q) [] fun p hp => by have := g2 p hp; omega
    exact ⟨by omega, h2⟩
  have h0 := skipF_le s
  have h1 := tokF_le (skipF s)
  unfold parseF at h
  split at h
  · cases h
  · split at h
    · split at h
      · cases h
      · rename_i s2 hs2
        split at h
        · cases h
        · cases h
          have h2 := byteF_le hs2
          have h3 := tokF_le s2
          exact key _ (by omega)
    · cases h
      exact key _ (by omega)
theorem kindF_small (b : Bs) (l : List Fd) (dg : Bool) : (kindF b l dg).2.2.length ≤ b.length ∧ ∀ p ∈ (kindF b l dg).2.2, p.1.length ≤ b.length := by
  have hv := valueF_le b l ctB
  unfold kindF
  split
  · rename_i p hp
    obtain ⟨t, u, ps⟩ := p
    obtain ⟨h1, h2⟩ := parseF_small hp
    exact ⟨by simp only; omega, fun p hp => by have := h2 p hp; omega⟩
  · split <;> simp
end Go.Proofs.YtemgbdncidgoiaaDoor
end
section
namespace Go.Proofs.YtemgbdncidgoiaaDoor
open Go.Ev Go
theorem kidsF_n {ent : Nat → Nat → Nat → Pt × Nat} (h : ∀ fr to n, n ≤ 1000 → (ent fr to n).2 ≤ 1000) (fin : Nat) : ∀ (cs : List (Nat × Nat)) (n : Nat), n ≤ 1000 → (kidsF ent fin cs n).2 ≤ 1000
  | [], n, hn => hn
  | c :: r, n, hn => by
    unfold kidsF
    exact kidsF_n h fin r _ (h _ _ _ hn)
theorem entF_n (b : Bs) : ∀ (d fr to : Nat) (dg : Bool) (n : Nat), n ≤ 1000 → (entF b d fr to dg n).2 ≤ 1000
  | 0, fr, to, dg, n, hn => by simpa [entF] using hn
  | d + 1, fr, to, dg, n, hn => by
    unfold entF
    simp only
    split
    · split
      · rename_i h
        exact kidsF_n (fun fr to n hn => entF_n b d fr to _ n hn) _ _ _ h.2
      · exact hn
    · split
      · rename_i h
        exact entF_n b d _ _ _ _ (by have := h.2.2.2; omega)
      · exact hn
def EntRet (b : Bs) (d : Nat) : Prop := ∀ (fr to n : Nat) (dg : Bool), n ≤ 1000 →
  Ret 31 [.ref 0 0, .agg [.int .i64 (fr : Nat), .int .i64 (to : Nat)], .int .i64 ((32 - d : Nat) : Int), .bool dg] (objB b (n : Nat)) (partV (entF b d fr to dg n).1, objB b ((entF b d fr to dg n).2 : Nat))
def objP (k h1 h2 b1 b2 : Int) (kids : List V) (cs : List (Nat × Nat)) (e1 e2 : Int) : Ob :=
  .cells [.int .i64 k, .int .i64 h1, .int .i64 h2, .int .i64 b1, .int .i64 b2, .lst 28 true kids, .lst 24 false (cs.map cutV), .int .i64 e1, .int .i64 e2]
theorem getD_cut {l : List (Nat × Nat)} {i : Nat} (h : i < l.length) : (l.map cutV).getD i .bot = cutV l[i] := by simp [List.getD, h]
theorem eta_part (p : Pt) : V.agg [V.int .i64 (V.getI (List.headD (V.cells (partV p)) V.bot)), V.int .i64 (V.getI (List.headD (List.tail (V.cells (partV p))) V.bot)), V.int .i64 (V.getI (List.headD (List.tail (List.tail (V.cells (partV p)))) V.bot)),
    V.int .i64 (V.getI (List.headD (List.tail (List.tail (List.tail (V.cells (partV p))))) V.bot)), V.int .i64 (V.getI (List.headD (List.tail (List.tail (List.tail (List.tail (V.cells (partV p)))))) V.bot)),
    V.lst 28 false (V.getL (List.headD (List.tail (List.tail (List.tail (List.tail (List.tail (V.cells (partV p))))))) V.bot)), V.lst 24 false (V.getL (List.headD (List.tail (List.tail (List.tail (List.tail (List.tail (List.tail (V.cells (partV p)))))))) V.bot)),
    V.int .i64 (V.getI (List.headD (List.tail (List.tail (List.tail (List.tail (List.tail (List.tail (List.tail (V.cells (partV p))))))))) V.bot)), V.int .i64 (V.getI (List.headD (List.tail (List.tail (List.tail (List.tail (List.tail (List.tail (List.tail (List.tail (V.cells (partV p)))))))))) V.bot))] = partV p := by
  cases p; rw [partV]; rfl
theorem max_int (x y : Nat) : (if ((y : Nat) : Int) > ((x : Nat) : Int) then ((y : Nat) : Int) else ((x : Nat) : Int)) = ((max x y : Nat) : Int) := by
  split <;> omega
theorem loop43 (b : Bs) (d : Nat) (he : EntRet b d) (dg : Bool) (cs : List (Nat × Nat)) (hcs : cs.length ≤ 1000) (h1 h2 b1 b2 : Int) (e1 e2 : Nat) : ∀ (m i : Nat) (kids : List Pt) (n : Nat), cs.length - i = m → i ≤ cs.length → kids.length = i → n ≤ 1000 →
    Evt (fun k j => L43 (callN cfg k) j ((32 - d : Nat) : Int) dg (cs.map cutV) (cs.length : Nat) (i : Nat) (ofBytes b) (n : Nat) 1 h1 h2 b1 b2 (kids.map partV) (cs.map cutV) (e1 : Nat) (e2 : Nat))
      (.tup [], [.cells [.lst 5 false (ofBytes b), .int .i64 ((kidsF (fun fr to n => entF b d fr to dg n) e1 (cs.drop i) n).2 : Nat)], objP 1 h1 h2 b1 b2 ((kids ++ (kidsF (fun fr to n => entF b d fr to dg n) e1 (cs.drop i) n).1).map partV) cs (e1 : Nat) (e2 : Nat)])
  | 0, i, kids, n, h, hi, hk, hn => by
    refine N43_0 ((32 - d : Nat) : Int) dg (cs.map cutV) (cs.length : Nat) (i : Nat) (ofBytes b) (n : Nat) 1 h1 h2 b1 b2 (kids.map partV) (cs.map cutV) (e1 : Nat) (e2 : Nat) ?_
    have g1 : ¬ ((i : Int) < (cs.length : Int)) := by omega
    rw [List.drop_eq_nil_of_le (by omega)]
    simp only [T43_0, g1, decide_false, Bool.false_eq_true, if_false, kidsF, List.append_nil, objP]
    exact evt_some _
  | m + 1, i, kids, n, h, hi, hk, hn => by
    have hlt : i < cs.length := by omega
    refine N43_0 ((32 - d : Nat) : Int) dg (cs.map cutV) (cs.length : Nat) (i : Nat) (ofBytes b) (n : Nat) 1 h1 h2 b1 b2 (kids.map partV) (cs.map cutV) (e1 : Nat) (e2 : Nat) ?_
    have g1 : ((i : Int) < (cs.length : Int)) := by omega
    have g2 : (0 : Int) ≤ (i : Int) := by omega
    have hw : IntKind.wrap .i64 ((i : Int) + 1) = ((i + 1 : Nat) : Int) := by rw [wrap64 (by omega) (by omega)]; omega
    have hd : cs.drop i = cs[i] :: cs.drop (i + 1) := List.drop_eq_getElem_cons hlt
    have hap : ∀ v : V, appOk (kids.map partV) [v] 105 = true := fun v => app_ok (by simp; omega)
    have hkl : ((((kids.map partV).length : Nat) : Int) == (((kids.map partV).length : Nat) : Int)) = true := by simp
    rw [hd]
    have fin : ∀ x : Nat, nextF e1 (cs.drop (i + 1)) = x →
        Evt (fun k j => Option.bind (callN cfg k 31 [.ref 0 0, .agg [.int .i64 (cs[i].2 : Nat), .int .i64 ((max x cs[i].2 : Nat) : Int)], .int .i64 ((32 - d : Nat) : Int), .bool dg] (objB b (n : Nat))) fun z0 =>
          L43 (callN cfg k) j ((32 - d : Nat) : Int) dg (cs.map cutV) (cs.length : Nat) ((i + 1 : Nat) : Int) ((V.getL (List.headD (Ob.getC (List.headD z0.2 Ob.dead)) V.bot))) ((V.getI (List.headD (List.tail (Ob.getC (List.headD z0.2 Ob.dead))) V.bot))) 1 h1 h2 b1 b2 (kids.map partV ++ [V.agg [V.int .i64 (V.getI (List.headD (V.cells z0.1) V.bot)), V.int .i64 (V.getI (List.headD (List.tail (V.cells z0.1)) V.bot)), V.int .i64 (V.getI (List.headD (List.tail (List.tail (V.cells z0.1))) V.bot)), V.int .i64 (V.getI (List.headD (List.tail (List.tail (List.tail (V.cells z0.1)))) V.bot)), V.int .i64 (V.getI (List.headD (List.tail (List.tail (List.tail (List.tail (V.cells z0.1))))) V.bot)), V.lst 28 false (V.getL (List.headD (List.tail (List.tail (List.tail (List.tail (List.tail (V.cells z0.1)))))) V.bot)), V.lst 24 false (V.getL (List.headD (List.tail (List.tail (List.tail (List.tail (List.tail (List.tail (V.cells z0.1))))))) V.bot)), V.int .i64 (V.getI (List.headD (List.tail (List.tail (List.tail (List.tail (List.tail (List.tail (List.tail (V.cells z0.1)))))))) V.bot)), V.int .i64 (V.getI (List.headD (List.tail (List.tail (List.tail (List.tail (List.tail (List.tail (List.tail (List.tail (V.cells z0.1))))))))) V.bot))]]) (cs.map cutV) (e1 : Nat) (e2 : Nat))
        (.tup [], [.cells [.lst 5 false (ofBytes b), .int .i64 ((kidsF (fun fr to n => entF b d fr to dg n) e1 (cs[i] :: cs.drop (i + 1)) n).2 : Nat)], objP 1 h1 h2 b1 b2 ((kids ++ (kidsF (fun fr to n => entF b d fr to dg n) e1 (cs[i] :: cs.drop (i + 1)) n).1).map partV) cs (e1 : Nat) (e2 : Nat)]) := by
      intro x hx
      refine evt_bind (he cs[i].2 (max x cs[i].2) n dg hn) ?_
      have := loop43 b d he dg cs hcs h1 h2 b1 b2 e1 e2 m (i + 1) (kids ++ [(entF b d cs[i].2 (max x cs[i].2) dg n).1]) (entF b d cs[i].2 (max x cs[i].2) dg n).2 (by omega) (by omega) (by simp [hk]) (entF_n b d _ _ _ _ hn)
      unfold kidsF
      rw [hx]
      simp only [eta_part]
      simp only [List.map_append, List.map_cons, List.map_nil, List.append_assoc, List.singleton_append] at this ⊢
      exact this
    by_cases hn1 : i + 1 < cs.length
    · have q1 : (((i + 1 : Nat) : Int) < (cs.length : Int)) := by omega
      have q2 : (0 : Int) ≤ ((i + 1 : Nat) : Int) := by omega
      simp only [T43_0, g1, decide_true, if_true, chk_p g2, List.length_map, chk_t, hw, q1, chk_p q2, Int.toNat_natCast, getD_cut hlt, getD_cut hn1, cutV, V.cells, List.headD_cons, List.tail_cons, V.getI, max_int, beq_self_eq_true, chk_b (hap _)]
      exact fin cs[i + 1].1 (by rw [List.drop_eq_getElem_cons hn1]; rfl)
    · have q1 : ¬ (((i + 1 : Nat) : Int) < (cs.length : Int)) := by omega
      simp only [T43_0, g1, decide_true, decide_false, Bool.false_eq_true, if_false, if_true, chk_p g2, List.length_map, chk_t, hw, q1, Int.toNat_natCast, getD_cut hlt, cutV, V.cells, List.headD_cons, List.tail_cons, V.getI, max_int, beq_self_eq_true, chk_b (hap _)]
      exact fin e1 (by rw [List.drop_eq_nil_of_le (by omega)]; rfl)
end Go.Proofs.YtemgbdncidgoiaaDoor
end
section
namespace Go.Proofs.YtemgbdncidgoiaaDoor
open Go.Ev Go
theorem ret43 (b : Bs) (d : Nat) (he : EntRet b d) (dg : Bool) (cs : List (Nat × Nat)) (hcs : cs.length ≤ 1000) (h1 h2 b1 b2 : Int) (e1 e2 : Nat) (n : Nat) (hn : n ≤ 1000) :
    Ret 43 [.ref 0 0, .ref 1 0, .int .i64 ((32 - d : Nat) : Int), .bool dg] [.cells [.lst 5 false (ofBytes b), .int .i64 (n : Nat)], objP 1 h1 h2 b1 b2 [] cs (e1 : Nat) (e2 : Nat)]
      (.tup [], [.cells [.lst 5 false (ofBytes b), .int .i64 ((kidsF (fun fr to n => entF b d fr to dg n) e1 cs n).2 : Nat)], objP 1 h1 h2 b1 b2 ((kidsF (fun fr to n => entF b d fr to dg n) e1 cs n).1.map partV) cs (e1 : Nat) (e2 : Nat)]) := by
  refine M43 (ofBytes b) (n : Nat) 1 h1 h2 b1 b2 [] (cs.map cutV) (e1 : Nat) (e2 : Nat) ((32 - d : Nat) : Int) dg ?_
  simp only [T43, List.length_map]
  have := loop43 b d he dg cs hcs h1 h2 b1 b2 e1 e2 cs.length 0 [] n (by omega) (by omega) rfl hn
  simpa using this
theorem ent_0 (b : Bs) (hb : b.length ≤ 100000) : EntRet b 0 := by
  intro fr to n dg hn
  refine M31 (ofBytes b) (n : Nat) (fr : Nat) (to : Nat) ((32 - 0 : Nat) : Int) dg ?_
  simp only [T31]
  refine evt_bind (ret39 b (by omega) (fr : Nat) (to : Nat)) ?_
  have h1 : ((((32 - 0 : Nat) : Int)) == (32 : Int)) = true := rfl
  simp only [h1, if_true, V.getT, List.headD_cons, List.tail_cons, V.getI]
  rw [← headF_at]
  exact evt_some _
theorem cutsG_length (b bd : Bs) : ∀ (l : List Ln) (out : List (Nat × Nat)) (fr : Nat), (cutsG b bd l out fr).1.length ≤ out.length + l.length
  | [], out, fr => by simp [cutsG]
  | x :: r, out, fr => by
    unfold cutsG
    split
    · have := cutsG_length b bd r out x.2.1; simp only [List.length_cons]; omega
    · split
      · simp
      · have := cutsG_length b bd r (out ++ [(fr, x.2.2)]) x.2.2; simp only [List.length_append, List.length_cons, List.length_nil] at this ⊢; omega
theorem cutsF_length (b : Bs) (fr to : Nat) (bd : Bs) : (cutsF b fr to bd).1.length ≤ b.length := by
  have h1 := linesOf_length fr to b
  have h2 := cutsG_length b bd (linesOf fr to b) [] fr
  unfold cutsF; simp at h2; simp only; omega
theorem getI_int (k : IntKind) (z : Int) : (V.int k z).getI = z := rfl
theorem getL_lst (t : TypeId) (o : Bool) (l : List V) : (V.lst t o l).getL = l := rfl
theorem getB_bool (x : Bool) : (V.bool x).getB = x := rfl
theorem getS_str (x : Bs) : (V.str x).getS = x := rfl
theorem getT_tup (l : List V) : (V.tup l).getT = l := rfl
theorem cells_agg (l : List V) : (V.agg l).cells = l := rfl
theorem leaf_V (fr at_ to : Nat) : partV (leafP fr at_ to) = .agg [.int .i64 0, .int .i64 (fr : Nat), .int .i64 (at_ : Nat), .int .i64 (at_ : Nat), .int .i64 (to : Nat), .lst 28 false [], .lst 24 false [], .int .i64 0, .int .i64 0] := by
  unfold leafP; rw [partV]; rfl
theorem evt_opt {α β : Type} {o : Option β} {v : β} {F : Nat → Nat → β → Option α} {r : α} (h : o = some v) (h2 : Evt (fun k n => F k n v) r) : Evt (fun k n => Option.bind o (F k n)) r := by subst h; exact h2
theorem ent_s (b : Bs) (hb : b.length ≤ 100000) (d : Nat) (hd : d + 1 ≤ 32) (he : EntRet b d) : EntRet b (d + 1) := by
  intro fr to n dg hn
  refine M31 (ofBytes b) (n : Nat) (fr : Nat) (to : Nat) ((32 - (d + 1) : Nat) : Int) dg ?_
  simp only [T31]
  refine evt_bind (ret39 b (by omega) (fr : Nat) (to : Nat)) ?_
  obtain ⟨k1, k2⟩ := headF_ok b (fr : Nat) (to : Nat)
  have h1 : ((((32 - (d + 1) : Nat) : Int)) == (32 : Int)) = false := beq_eq_false_iff_ne.2 (by omega)
  have hw : IntKind.wrap .i64 (((32 - (d + 1) : Nat) : Int) + 1) = ((32 - d : Nat) : Int) := by rw [wrap64 (by omega) (by omega)]; omega
  simp only [h1, Bool.false_eq_true, if_false, getT_tup, List.headD_cons, List.tail_cons, getI_int, getL_lst, hw]
  rw [← headF_at]
  generalize hat : (headF b (fr : Nat) (to : Nat)).2.toNat = at_
  generalize hfl : (headF b (fr : Nat) (to : Nat)).1 = l at k1 k2
  refine evt_bind (ret40 b (by omega) l (by omega) (fun f hf => by have := k1 f hf; omega) dg (n : Nat)) ?_
  obtain ⟨m1, m2⟩ := kindF_small b l dg
  generalize hv : kindF b l dg = v at m1 m2
  obtain ⟨t, u, ps⟩ := v
  simp only at m1 m2
  simp only [cells_agg, getS_str, getL_lst, List.headD_cons, List.tail_cons]
  refine evt_bind (ret41 t u ps (by omega) (fun p hp => by have := m2 p hp; omega) bdB (by simp [bdB])) ?_
  simp only [getT_tup, getS_str, List.headD_cons]
  have hent : entF b (d + 1) fr to dg n = (if t = mpB ∧ (getF ps bdB).getD [] ≠ [] ∧ ((getF ps bdB).getD []).length ≤ 70 then
      if 0 < (cutsF b at_ to ((getF ps bdB).getD [])).1.length ∧ n + (cutsF b at_ to ((getF ps bdB).getD [])).1.length ≤ 1000 then
        (Pt.mk 1 (fr, at_) (at_, to) (kidsF (fun fr to n => entF b d fr to (u == dgB) n) (cutsF b at_ to ((getF ps bdB).getD [])).2.1 (cutsF b at_ to ((getF ps bdB).getD [])).1 (n + (cutsF b at_ to ((getF ps bdB).getD [])).1.length)).1 (cutsF b at_ to ((getF ps bdB).getD [])).1 (cutsF b at_ to ((getF ps bdB).getD [])).2,
          (kidsF (fun fr to n => entF b d fr to (u == dgB) n) (cutsF b at_ to ((getF ps bdB).getD [])).2.1 (cutsF b at_ to ((getF ps bdB).getD [])).1 (n + (cutsF b at_ to ((getF ps bdB).getD [])).1.length)).2)
      else (leafP fr at_ to, n)
    else if t = msgB ∧ u = rfcB ∧ noneF b l = true ∧ n < 1000 then (Pt.mk 2 (fr, at_) (at_, to) [(entF b d at_ to false (n + 1)).1] [] (0, 0), (entF b d at_ to false (n + 1)).2)
    else (leafP fr at_ to, n)) := by
    rw [entF]
    simp only [hat, hfl, hv]
  rw [hent]
  generalize hbd : (getF ps bdB).getD [] = bd
  have hsq : ∀ x y : Bs, sEq x y = decide (x = y) := fun x y => by
    by_cases h : x = y
    · subst h; simp [sEq]
    · simp [sEq, h]
  have leaf : ∀ x : Int, x = (n : Int) → Evt (fun _ _ => some (V.agg [.int .i64 0, .int .i64 (fr : Nat), .int .i64 (at_ : Nat), .int .i64 (at_ : Nat), .int .i64 (to : Nat), .lst 28 false [], .lst 24 false [], .int .i64 0, .int .i64 0],
      [Ob.cells [.lst 5 false (ofBytes b), .int .i64 x]])) (partV (leafP fr at_ to), objB b (n : Nat)) := by
    intro x hx
    subst hx
    rw [leaf_V]
    exact evt_some _
  have hy3 : (if sEq t [109, 117, 108, 116, 105, 112, 97, 114, 116] = true then (if (!(sEq bd [])) = true then some (decide (((bd.length : Nat) : Int) ≤ (70 : Int))) else some false) else some false) = some (decide (t = mpB ∧ bd ≠ [] ∧ bd.length ≤ 70)) := by
    have e1 : sEq t [109, 117, 108, 116, 105, 112, 97, 114, 116] = decide (t = mpB) := hsq t mpB
    rw [e1, hsq bd []]
    by_cases c1 : t = mpB
    · by_cases c2 : bd = []
      · simp [c1, c2]
      · by_cases c3 : bd.length ≤ 70
        · have : ((bd.length : Nat) : Int) ≤ 70 := by omega
          simp [c1, c2, c3, this]
        · have : ¬ (((bd.length : Nat) : Int) ≤ 70) := by omega
          simp [c1, c2, c3, this]
    · simp [c1]
  refine evt_opt hy3 ?_
  by_cases hc : t = mpB ∧ bd ≠ [] ∧ bd.length ≤ 70
  · rw [if_pos hc]
    simp only [decide_eq_true hc, if_true]
    refine evt_bind (ret42 b bd (by omega) (by have := hc.2.2; omega) (n : Nat) at_ to) ?_
    have hcl := cutsF_length b at_ to bd
    generalize hcu : cutsF b at_ to bd = cu at hcl
    obtain ⟨cs, e1, e2⟩ := cu
    simp only at hcl
    have hwn : IntKind.wrap .i64 ((n : Int) + ((cs.length : Nat) : Int)) = ((n + cs.length : Nat) : Int) := by rw [wrap64 (by omega) (by omega)]; omega
    simp only [V.getT, List.headD_cons, List.tail_cons, V.getB, V.getL, objB, Ob.getC, V.getI, cutV, V.cells, List.length_map, hwn]
    have hy5 : (if decide (0 < cs.length) = true then some (decide (((n + cs.length : Nat) : Int) ≤ (1000 : Int))) else some false) = some (decide (0 < cs.length ∧ n + cs.length ≤ 1000)) := by
      by_cases c1 : 0 < cs.length
      · by_cases c2 : n + cs.length ≤ 1000
        · have : ((n + cs.length : Nat) : Int) ≤ 1000 := by omega
          simp only [c1, c2, this, decide_true, if_true, and_self]
        · have : ¬ (((n + cs.length : Nat) : Int) ≤ 1000) := by omega
          simp only [c1, c2, this, decide_true, decide_false, if_true, and_false]
      · simp only [c1, decide_false, Bool.false_eq_true, if_false, false_and]
    refine evt_opt hy5 ?_
    by_cases hc2 : 0 < cs.length ∧ n + cs.length ≤ 1000
    · rw [if_pos hc2]
      simp only [decide_eq_true hc2, if_true]
      refine evt_bind (ret43 b d he (u == dgB) cs (by omega) (fr : Nat) (at_ : Nat) (at_ : Nat) (to : Nat) e1 e2 (n + cs.length) hc2.2) ?_
      rw [partV, partVL_eq]
      exact evt_some _
    · rw [if_neg hc2]
      simp only [decide_eq_false hc2, Bool.false_eq_true, if_false]
      exact leaf _ rfl
  · rw [if_neg hc]
    simp only [decide_eq_false hc, Bool.false_eq_true, if_false]
    by_cases t1 : t = msgB
    · by_cases t2 : u = rfcB
      · have s1 : sEq t [109, 101, 115, 115, 97, 103, 101] = true := by rw [hsq]; exact decide_eq_true t1
        have s2 : sEq u [114, 102, 99, 56, 50, 50] = true := by rw [hsq]; exact decide_eq_true t2
        simp only [s1, s2, if_true]
        refine evt_bind (ret44 b (by omega) l (by omega) (fun f hf => by have := k1 f hf; omega) (n : Nat)) ?_
        simp only [getB_bool, objB, Ob.getC, List.headD_cons, List.tail_cons, getI_int, getL_lst]
        by_cases t3 : noneF b l = true
        · by_cases t4 : n < 1000
          · have t4' : ((n : Nat) : Int) < 1000 := by omega
            have hwn : IntKind.wrap .i64 ((n : Int) + 1) = ((n + 1 : Nat) : Int) := by rw [wrap64 (by omega) (by omega)]; omega
            rw [if_pos ⟨t1, t2, t3, t4⟩]
            simp only [t3, if_true, t4', decide_true, hwn]
            refine evt_bind (he at_ to (n + 1) false (by omega)) ?_
            simp only [eta_part]
            rw [partV, partVL, partVL]
            exact evt_some _
          · have t4' : ¬ (((n : Nat) : Int) < 1000) := by omega
            rw [if_neg (fun h => t4 h.2.2.2)]
            simp only [t3, if_true, t4', decide_false, Bool.false_eq_true, if_false]
            exact leaf _ rfl
        · rw [if_neg (fun h => t3 h.2.2.1)]
          simp only [t3, Bool.false_eq_true, if_false]
          exact leaf _ rfl
      · rw [if_neg (fun h => t2 h.2.1)]
        have s1 : sEq t [109, 101, 115, 115, 97, 103, 101] = true := by rw [hsq]; exact decide_eq_true t1
        have s2 : sEq u [114, 102, 99, 56, 50, 50] = false := by rw [hsq]; exact decide_eq_false t2
        simp only [s1, s2, if_true, Bool.false_eq_true, if_false]
        exact leaf _ rfl
    · rw [if_neg (fun h => t1 h.1)]
      have s1 : sEq t [109, 101, 115, 115, 97, 103, 101] = false := by rw [hsq]; exact decide_eq_false t1
      simp only [s1, Bool.false_eq_true, if_false]
      exact leaf _ rfl
theorem ent_ret (b : Bs) (hb : b.length ≤ 100000) : ∀ d, d ≤ 32 → EntRet b d
  | 0, _ => ent_0 b hb
  | d + 1, h => ent_s b hb d h (ent_ret b hb d (by omega))
end Go.Proofs.YtemgbdncidgoiaaDoor
end
section
namespace Go.Proofs.YtemgbdncidgoiaaDoor
open Go.Ev Go
theorem ret15 (b : Bs) (hb : b.length ≤ 100000) :
    Ret 15 [.lst 5 false (ofBytes b)] [] (.tup [partV (entF b 32 0 b.length false 1).1, .int .i64 0], []) := by
  refine M15 (ofBytes b) ?_
  have h1 : ¬ (((b.length : Nat) : Int) > 67108864) := by omega
  simp only [T15, ofBytes_length, h1, decide_false, Bool.false_eq_true, if_false]
  have he : Ret 31 [.ref 0 0, .agg [.int .i64 (0 : Int), .int .i64 (b.length : Nat)], .int .i64 (0 : Int), .bool false] [.cells [.lst 5 false (ofBytes b), .int .i64 (1 : Int)]] (partV (entF b 32 0 b.length false 1).1, objB b ((entF b 32 0 b.length false 1).2 : Nat)) :=
    ent_ret b hb 32 (by omega) 0 b.length 1 false (by omega)
  refine evt_bind he ?_
  simp only [eta_part]
  exact evt_some _
mutual
def cntF : Pt → Nat
  | .mk _ _ _ kids _ _ => 1 + cntL kids
def cntL : List Pt → Nat
  | [] => 0
  | p :: r => cntF p + cntL r
end
theorem cntF_pos (p : Pt) : 1 ≤ cntF p := by cases p; rw [cntF]; omega
theorem cntL_len : ∀ l : List Pt, l.length ≤ cntL l
  | [] => by simp [cntL]
  | p :: r => by have := cntL_len r; have := cntF_pos p; rw [cntL, List.length_cons]; omega
end Go.Proofs.YtemgbdncidgoiaaDoor
end
section
namespace Go.Proofs.YtemgbdncidgoiaaDoor
open Go.Ev Go
open List (headD tail getD length drop take)
open V (getI getL getT getS getB)
set_option maxRecDepth 100000
variable (call : FuncId → Fun) (icall : ICall (V × List Ob)) (again : List It → St → Option (V × List Ob))
end Go.Proofs.YtemgbdncidgoiaaDoor
end
section
namespace Go.Proofs.YtemgbdncidgoiaaDoor
open Go.Ev Go
end Go.Proofs.YtemgbdncidgoiaaDoor
end
section
namespace Go.Proofs.YtemgbdncidgoiaaDoor
open Go.Ev Go
theorem setTo_in {m : Nat} {l : List Fd} {to : Nat} (h : ∀ f ∈ l, f.2.2.2 ≤ m) (ht : to ≤ m) : ∀ f ∈ setTo l to, f.2.2.2 ≤ m := by
  intro f hf
  unfold setTo at hf
  split at hf
  · rename_i g hg
    rcases List.mem_or_eq_of_mem_set hf with hf | rfl
    · exact h f hf
    · exact ht
  · exact h f hf
theorem stepH_in {m : Nat} {b : Bs} {st : List Fd × Bool} {x : Ln} (h : ∀ f ∈ st.1, f.2.2.2 ≤ m) (hx : x.2.2 ≤ m) : ∀ f ∈ (stepH b st x).1, f.2.2.2 ≤ m := by
  unfold stepH
  split
  · split
    · exact setTo_in h hx
    · exact h
  · split
    · exact h
    · intro f hf
      rw [List.mem_append] at hf
      rcases hf with hf | hf
      · exact h f hf
      · simp at hf; subst hf; exact hx
theorem foldH_in {m : Nat} {b : Bs} : ∀ (l : List Ln) (st : List Fd × Bool), (∀ f ∈ st.1, f.2.2.2 ≤ m) → (∀ x ∈ l, x.2.2 ≤ m) → ∀ f ∈ (l.foldl (stepH b) st).1, f.2.2.2 ≤ m
  | [], st, h, _ => h
  | x :: r, st, h, hx => foldH_in r _ (stepH_in h (hx x (by simp))) fun y hy => hx y (by simp [hy])
theorem headF_in (b : Bs) (fr to : Nat) : ∀ f ∈ (headF b (fr : Nat) (to : Nat)).1, f.2.2.2 ≤ b.length := by
  have hb : ∀ x ∈ linesOf (fr : Nat) (to : Nat) b, x.2.2 ≤ b.length := fun x hx => (linesOf_bounds x hx).2.2
  unfold headF
  split
  · simp
  · split
    · exact foldH_in _ _ (by simp) fun x hx => hb x (List.mem_of_mem_take hx)
    · exact foldH_in _ _ (by simp) hb
end Go.Proofs.YtemgbdncidgoiaaDoor
end
section
namespace Go.Proofs.YtemgbdncidgoiaaDoor
open Go.Ev Go
theorem entF_s (b : Bs) (d fr to : Nat) (dg : Bool) (n : Nat) {at_ : Nat} {l : List Fd} {t u : Bs} {ps : Ps} {bd : Bs} {cs : List (Nat × Nat)} {e : Nat × Nat}
    (h1 : (headF b (fr : Nat) (to : Nat)).1 = l) (h2 : (headF b (fr : Nat) (to : Nat)).2.toNat = at_) (h3 : kindF b l dg = (t, u, ps)) (h4 : (getF ps bdB).getD [] = bd) (h5 : cutsF b at_ to bd = (cs, e)) :
    entF b (d + 1) fr to dg n = if t = mpB ∧ bd ≠ [] ∧ bd.length ≤ 70 then
      if 0 < cs.length ∧ n + cs.length ≤ 1000 then
        (Pt.mk 1 (fr, at_) (at_, to) (kidsF (fun fr to n => entF b d fr to (u == dgB) n) e.1 cs (n + cs.length)).1 cs e, (kidsF (fun fr to n => entF b d fr to (u == dgB) n) e.1 cs (n + cs.length)).2)
      else (leafP fr at_ to, n)
    else if t = msgB ∧ u = rfcB ∧ noneF b l = true ∧ n < 1000 then (Pt.mk 2 (fr, at_) (at_, to) [(entF b d at_ to false (n + 1)).1] [] (0, 0), (entF b d at_ to false (n + 1)).2)
    else (leafP fr at_ to, n) := by
  rw [entF]
  simp only [h1, h2, h3, h4, h5]
theorem kidsF_cnt (ent : Nat → Nat → Nat → Pt × Nat) (h : ∀ fr to n, (ent fr to n).2 + 1 = n + cntF (ent fr to n).1) (fin : Nat) : ∀ (cs : List (Nat × Nat)) (n : Nat), (kidsF ent fin cs n).2 + cs.length = n + cntL (kidsF ent fin cs n).1
  | [], n => by simp [kidsF, cntL]
  | c :: r, n => by
    have h1 := h c.2 (max (nextF fin r) c.2) n
    have h2 := kidsF_cnt ent h fin r (ent c.2 (max (nextF fin r) c.2) n).2
    rw [kidsF, cntL, List.length_cons]
    simp only
    omega
theorem entF_cnt (b : Bs) : ∀ (d fr to : Nat) (dg : Bool) (n : Nat), (entF b d fr to dg n).2 + 1 = n + cntF (entF b d fr to dg n).1
  | 0, fr, to, dg, n => by rw [entF]; simp only [leafP, cntF, cntL]
  | d + 1, fr, to, dg, n => by
    generalize h1 : (headF b (fr : Nat) (to : Nat)).1 = l
    generalize h2 : (headF b (fr : Nat) (to : Nat)).2.toNat = at_
    obtain ⟨t, u, ps, h3⟩ : ∃ t u ps, kindF b l dg = (t, u, ps) := ⟨_, _, _, rfl⟩
    generalize h4 : (getF ps bdB).getD [] = bd
    obtain ⟨cs, e, h5⟩ : ∃ cs e, cutsF b at_ to bd = (cs, e) := ⟨_, _, rfl⟩
    rw [entF_s b d fr to dg n h1 h2 h3 h4 h5]
    split
    · split
      · have := kidsF_cnt (fun fr to n => entF b d fr to (u == dgB) n) (fun fr to n => entF_cnt b d fr to _ n) e.1 cs (n + cs.length)
        rw [cntF]
        simp only
        omega
      · simp only [leafP, cntF, cntL]
    · split
      · have := entF_cnt b d at_ to false (n + 1)
        simp only [cntF, cntL]
        omega
      · simp only [leafP, cntF, cntL]
end Go.Proofs.YtemgbdncidgoiaaDoor
end
section
namespace Go.Proofs.YtemgbdncidgoiaaDoor
open Go.Ev Go
def awB : Bs := [67, 111, 110, 116, 101, 110, 116, 45, 84, 121, 112, 101, 58, 32, 109, 117, 108, 116, 105, 112, 97, 114, 116, 47, 109, 105, 120, 101, 100, 59, 32, 98, 111, 117, 110, 100, 97, 114, 121, 61, 98, 13, 10, 13, 10, 112, 114, 101, 13, 10, 45, 45, 98, 13, 10, 13, 10, 111, 110, 101, 13, 10, 45, 45, 98, 13, 10, 67, 111, 110, 116, 101, 110, 116, 45, 84, 121, 112, 101, 58, 32, 109, 101, 115, 115, 97, 103, 101, 47, 114, 102, 99, 56, 50, 50, 13, 10, 13, 10, 83, 117, 98, 106, 101, 99, 116, 58, 32, 115, 13, 10, 13, 10, 116, 119, 111, 13, 10, 45, 45, 98, 45, 45, 13, 10, 112, 111, 115, 116]
def awT : Pt := .mk 1 (0, 45) (45, 129) [.mk 0 (55, 57) (57, 60) [] [] (0, 0), .mk 2 (67, 99) (99, 116) [.mk 0 (99, 113) (113, 116) [] [] (0, 0)] [] (0, 0)] [(48, 55), (60, 67)] (116, 125)
theorem awTree : entF awB 32 0 awB.length false 1 = (awT, 4) := by kernel_rfl
theorem awParse : Ret 15 [.lst 5 false (ofBytes awB)] [] (.tup [partV awT, .int .i64 0], []) := by
  have := ret15 awB (by simp [awB])
  rw [awTree] at this
  exact this
theorem awCnt : cntF awT = 4 := by simp only [awT, cntF, cntL]
theorem evt_eq {α : Type} {g g' : Nat → Nat → Option α} {r : α} (hg : ∀ k n, g k n = g' k n) (h : Evt g' r) : Evt g r := by
  obtain ⟨K, h⟩ := h
  exact ⟨K, fun k n hk hn => (hg k n).trans (h k n hk hn)⟩
end Go.Proofs.YtemgbdncidgoiaaDoor
end
section
namespace Go.Proofs.YtemgbdncidgoiaaDoor
open Go.Ev Go
end Go.Proofs.YtemgbdncidgoiaaDoor
end
section
namespace Go.Proofs.YtemgbdncidgoiaaDoor
open Go.Ev Go
open List (headD tail getD length drop take)
open V (getI getL getT getS getB)
set_option maxRecDepth 100000
variable (call : FuncId → Fun) (icall : ICall (V × List Ob)) (again : List It → St → Option (V × List Ob))
end Go.Proofs.YtemgbdncidgoiaaDoor
end
section
namespace Go.Proofs.YtemgbdncidgoiaaDoor
open Go.Ev Go
theorem ofBytes_append (x y : Bs) : ofBytes x ++ ofBytes y = ofBytes (x ++ y) := by simp [ofBytes]
end Go.Proofs.YtemgbdncidgoiaaDoor
end
section
namespace Go.Proofs.YtemgbdncidgoiaaDoor
open Go.Ev Go
open List (headD tail getD length drop take)
open V (getI getL getT getS getB)
set_option maxRecDepth 100000
variable (call : FuncId → Fun) (icall : ICall (V × List Ob)) (again : List It → St → Option (V × List Ob))
end Go.Proofs.YtemgbdncidgoiaaDoor
end
section
namespace Go.Proofs.YtemgbdncidgoiaaDoor
open Go.Ev Go
def subjN : Bs := [115, 117, 98, 106, 101, 99, 116]
theorem getD_by {b : Bs} {i : Nat} (h : i < b.length) : (ofBytes b).getD i .bot = .int .u8 (b[i].toNat : Nat) := by simp [ofBytes, List.getD, h]
end Go.Proofs.YtemgbdncidgoiaaDoor
end
section
namespace Go.Proofs.YtemgbdncidgoiaaDoor
open Go.Ev Go
open List (headD tail getD length drop take)
open V (getI getL getT getS getB)
set_option maxRecDepth 100000
variable (call : FuncId → Fun) (icall : ICall (V × List Ob)) (again : List It → St → Option (V × List Ob))
def T53 (call : FuncId → Fun) (a0 : List V) (a1 : Int) (a2 : Int) : Option (V × List Ob) :=
 Option.bind (call 73 [(V.agg [(V.int .i64 a1), (V.int .i64 a2)]), (V.int .i64 ((length a0 : Nat) : Int))] []) fun z0 =>
 if (!(getB z0.1)) = true then
 some ((V.lst 5 false []), [])
 else
 chk (decide (0 ≤ a2)) (chk (decide (a2 ≤ ((length a0 : Nat) : Int))) (chk (decide (0 ≤ a1)) (chk (decide (a1 ≤ a2)) (Option.bind (call 54 [(V.lst 5 false (drop (Int.toNat a1) (take (Int.toNat a2) a0)))] []) fun z1 =>
 some ((V.lst 5 false (getL z1.1)), [])))))
def A53 (a0 : List V) (a1 : Int) (a2 : Int) : List V := [V.lst 5 false a0, V.agg [V.int IntKind.i64 a1, V.int IntKind.i64 a2]]
theorem E53 (a0 : List V) (a1 : Int) (a2 : Int) : GO 53 Tryd.f53 (A53 a0 a1 a2) [] call icall again = T53 call a0 a1 a2 := by kernel_rfl
theorem C53 (k : Nat) (a0 : List V) (a1 : Int) (a2 : Int) : callN cfg (k + 1) 53 (A53 a0 a1 a2) [] = T53 (callN cfg k) a0 a1 a2 :=
 (show callN cfg (k + 1) 53 (A53 a0 a1 a2) [] = GO 53 Tryd.f53 (A53 a0 a1 a2) [] (callN cfg k) (icallN cfg (callN cfg k) 20) (RN 53 Tryd.f53 [] (callN cfg k) (icallN cfg (callN cfg k) 20) k) by kernel_rfl).trans (E53 _ _ _ a0 a1 a2)
theorem M53 (a0 : List V) (a1 : Int) (a2 : Int) {r : V × List Ob} (h : Evt (fun k n => T53 (callN cfg k) a0 a1 a2) r) : Ret 53 [V.lst 5 false a0, V.agg [V.int IntKind.i64 a1, V.int IntKind.i64 a2]] [] r := ret_mk (g := fun k n => T53 (callN cfg k) a0 a1 a2) (fun k => C53 k a0 a1 a2) h
def T50 (call : FuncId → Fun) (a0 : Int) (a1 : Int) (a2 : Int) (a3 : Int) (a4 : Int) (a5 : List V) (a6 : List V) (a7 : Int) (a8 : Int) (a9 : Int) : Option (V × List Ob) :=
 if (a0 == (1 : Int)) = true then
 Option.bind (if (decide (a9 < (1 : Int))) = false then
 some (decide (a9 > ((length a5 : Nat) : Int)))
 else
 some true) fun y0 =>
 if y0 = true then
 some ((V.tup [(V.agg [(V.int .i64 0), (V.int .i64 0), (V.int .i64 0), (V.int .i64 0), (V.int .i64 0), (V.lst 28 false []), (V.lst 24 false []), (V.int .i64 0), (V.int .i64 0)]), (V.bool false)]), [])
 else
 chk (decide (0 ≤ (IntKind.wrap .i64 (a9 - (1 : Int))))) (chk (decide ((IntKind.wrap .i64 (a9 - (1 : Int))) < ((length a5 : Nat) : Int))) (some ((V.tup [(V.agg [(V.int .i64 (getI (headD (V.cells (getD a5 (Int.toNat (IntKind.wrap .i64 (a9 - (1 : Int)))) V.bot)) V.bot))), (V.int .i64 (getI (headD (tail (V.cells (getD a5 (Int.toNat (IntKind.wrap .i64 (a9 - (1 : Int)))) V.bot))) V.bot))), (V.int .i64 (getI (headD (tail (tail (V.cells (getD a5 (Int.toNat (IntKind.wrap .i64 (a9 - (1 : Int)))) V.bot)))) V.bot))), (V.int .i64 (getI (headD (tail (tail (tail (V.cells (getD a5 (Int.toNat (IntKind.wrap .i64 (a9 - (1 : Int)))) V.bot))))) V.bot))), (V.int .i64 (getI (headD (tail (tail (tail (tail (V.cells (getD a5 (Int.toNat (IntKind.wrap .i64 (a9 - (1 : Int)))) V.bot)))))) V.bot))), (V.lst 28 false (getL (headD (tail (tail (tail (tail (tail (V.cells (getD a5 (Int.toNat (IntKind.wrap .i64 (a9 - (1 : Int)))) V.bot))))))) V.bot))), (V.lst 24 false (getL (headD (tail (tail (tail (tail (tail (tail (V.cells (getD a5 (Int.toNat (IntKind.wrap .i64 (a9 - (1 : Int)))) V.bot)))))))) V.bot))), (V.int .i64 (getI (headD (tail (tail (tail (tail (tail (tail (tail (V.cells (getD a5 (Int.toNat (IntKind.wrap .i64 (a9 - (1 : Int)))) V.bot))))))))) V.bot))), (V.int .i64 (getI (headD (tail (tail (tail (tail (tail (tail (tail (tail (V.cells (getD a5 (Int.toNat (IntKind.wrap .i64 (a9 - (1 : Int)))) V.bot)))))))))) V.bot)))]), (V.bool true)]), [])))
 else
 if (a9 == (1 : Int)) = true then
 some ((V.tup [(V.agg [(V.int .i64 a0), (V.int .i64 a1), (V.int .i64 a2), (V.int .i64 a3), (V.int .i64 a4), (V.lst 28 false a5), (V.lst 24 false a6), (V.int .i64 a7), (V.int .i64 a8)]), (V.bool true)]), [])
 else
 some ((V.tup [(V.agg [(V.int .i64 0), (V.int .i64 0), (V.int .i64 0), (V.int .i64 0), (V.int .i64 0), (V.lst 28 false []), (V.lst 24 false []), (V.int .i64 0), (V.int .i64 0)]), (V.bool false)]), [])
def A50 (a0 : Int) (a1 : Int) (a2 : Int) (a3 : Int) (a4 : Int) (a5 : List V) (a6 : List V) (a7 : Int) (a8 : Int) (a9 : Int) : List V := [V.agg [V.int IntKind.i64 a0, V.int IntKind.i64 a1, V.int IntKind.i64 a2, V.int IntKind.i64 a3, V.int IntKind.i64 a4, V.lst 28 false a5, V.lst 24 false a6, V.int IntKind.i64 a7, V.int IntKind.i64 a8], V.int IntKind.i64 a9]
theorem E50 (a0 : Int) (a1 : Int) (a2 : Int) (a3 : Int) (a4 : Int) (a5 : List V) (a6 : List V) (a7 : Int) (a8 : Int) (a9 : Int) : GO 50 Tryd.f50 (A50 a0 a1 a2 a3 a4 a5 a6 a7 a8 a9) [] call icall again = T50 call a0 a1 a2 a3 a4 a5 a6 a7 a8 a9 := by kernel_rfl
theorem C50 (k : Nat) (a0 : Int) (a1 : Int) (a2 : Int) (a3 : Int) (a4 : Int) (a5 : List V) (a6 : List V) (a7 : Int) (a8 : Int) (a9 : Int) : callN cfg (k + 1) 50 (A50 a0 a1 a2 a3 a4 a5 a6 a7 a8 a9) [] = T50 (callN cfg k) a0 a1 a2 a3 a4 a5 a6 a7 a8 a9 :=
 (show callN cfg (k + 1) 50 (A50 a0 a1 a2 a3 a4 a5 a6 a7 a8 a9) [] = GO 50 Tryd.f50 (A50 a0 a1 a2 a3 a4 a5 a6 a7 a8 a9) [] (callN cfg k) (icallN cfg (callN cfg k) 20) (RN 50 Tryd.f50 [] (callN cfg k) (icallN cfg (callN cfg k) 20) k) by kernel_rfl).trans (E50 _ _ _ a0 a1 a2 a3 a4 a5 a6 a7 a8 a9)
theorem M50 (a0 : Int) (a1 : Int) (a2 : Int) (a3 : Int) (a4 : Int) (a5 : List V) (a6 : List V) (a7 : Int) (a8 : Int) (a9 : Int) {r : V × List Ob} (h : Evt (fun k n => T50 (callN cfg k) a0 a1 a2 a3 a4 a5 a6 a7 a8 a9) r) : Ret 50 [V.agg [V.int IntKind.i64 a0, V.int IntKind.i64 a1, V.int IntKind.i64 a2, V.int IntKind.i64 a3, V.int IntKind.i64 a4, V.lst 28 false a5, V.lst 24 false a6, V.int IntKind.i64 a7, V.int IntKind.i64 a8], V.int IntKind.i64 a9] [] r := ret_mk (g := fun k n => T50 (callN cfg k) a0 a1 a2 a3 a4 a5 a6 a7 a8 a9) (fun k => C50 k a0 a1 a2 a3 a4 a5 a6 a7 a8 a9) h
def T36_0 (call : FuncId → Fun) (ag0 : Bool → List V → Int → Int → Int → Int → Int → Int → Int → List V → List V → Int → Int → Int → Int → Int → Int → Int → List V → List V → Int → Int → Option (V × List Ob)) (b0 : Bool) (l1 : List V) (i2 : Int) (i3 : Int) (i4 : Int) (i5 : Int) (i6 : Int) (i7 : Int) (i8 : Int) (l9 : List V) (l10 : List V) (i11 : Int) (i12 : Int) (i13 : Int) (i14 : Int) (i15 : Int) (i16 : Int) (i17 : Int) (l18 : List V) (l19 : List V) (i20 : Int) (i21 : Int) : Option (V × List Ob) :=
 if (decide (i3 < i2)) = true then
 chk (decide (0 ≤ i3)) (chk (decide (i3 < ((length l1 : Nat) : Int))) (if (decide (i3 > (0 : Int))) = true then
 Option.bind (if (i4 == (2 : Int)) = true then
 some (decide (((length l9 : Nat) : Int) > (0 : Int)))
 else
 some false) fun y0 =>
 if y0 = true then
 chk (decide (0 ≤ (0 : Int))) (chk (decide ((0 : Int) < ((length l9 : Nat) : Int))) (Option.bind (call 50 [(V.agg [(V.int .i64 (getI (headD (V.cells (getD l9 (Int.toNat (0 : Int)) V.bot)) V.bot))), (V.int .i64 (getI (headD (tail (V.cells (getD l9 (Int.toNat (0 : Int)) V.bot))) V.bot))), (V.int .i64 (getI (headD (tail (tail (V.cells (getD l9 (Int.toNat (0 : Int)) V.bot)))) V.bot))), (V.int .i64 (getI (headD (tail (tail (tail (V.cells (getD l9 (Int.toNat (0 : Int)) V.bot))))) V.bot))), (V.int .i64 (getI (headD (tail (tail (tail (tail (V.cells (getD l9 (Int.toNat (0 : Int)) V.bot)))))) V.bot))), (V.lst 28 false (getL (headD (tail (tail (tail (tail (tail (V.cells (getD l9 (Int.toNat (0 : Int)) V.bot))))))) V.bot))), (V.lst 24 false (getL (headD (tail (tail (tail (tail (tail (tail (V.cells (getD l9 (Int.toNat (0 : Int)) V.bot)))))))) V.bot))), (V.int .i64 (getI (headD (tail (tail (tail (tail (tail (tail (tail (V.cells (getD l9 (Int.toNat (0 : Int)) V.bot))))))))) V.bot))), (V.int .i64 (getI (headD (tail (tail (tail (tail (tail (tail (tail (tail (V.cells (getD l9 (Int.toNat (0 : Int)) V.bot)))))))))) V.bot)))]), (V.int .i64 (getI (getD l1 (Int.toNat i3) V.bot)))] []) fun z1 =>
 if (!(getB (headD (tail (getT z1.1)) V.bot))) = true then
 if (!(getB (headD (tail (getT z1.1)) V.bot))) = true then
 some ((V.tup [(V.agg [(V.int .i64 0), (V.int .i64 0), (V.int .i64 0), (V.int .i64 0), (V.int .i64 0), (V.lst 28 false []), (V.lst 24 false []), (V.int .i64 0), (V.int .i64 0)]), (V.bool false)]), [])
 else
 some ((V.tup [(V.agg [(V.int .i64 (getI (headD (V.cells (headD (getT z1.1) V.bot)) V.bot))), (V.int .i64 (getI (headD (tail (V.cells (headD (getT z1.1) V.bot))) V.bot))), (V.int .i64 (getI (headD (tail (tail (V.cells (headD (getT z1.1) V.bot)))) V.bot))), (V.int .i64 (getI (headD (tail (tail (tail (V.cells (headD (getT z1.1) V.bot))))) V.bot))), (V.int .i64 (getI (headD (tail (tail (tail (tail (V.cells (headD (getT z1.1) V.bot)))))) V.bot))), (V.lst 28 false (getL (headD (tail (tail (tail (tail (tail (V.cells (headD (getT z1.1) V.bot))))))) V.bot))), (V.lst 24 false (getL (headD (tail (tail (tail (tail (tail (tail (V.cells (headD (getT z1.1) V.bot)))))))) V.bot))), (V.int .i64 (getI (headD (tail (tail (tail (tail (tail (tail (tail (V.cells (headD (getT z1.1) V.bot))))))))) V.bot))), (V.int .i64 (getI (headD (tail (tail (tail (tail (tail (tail (tail (tail (V.cells (headD (getT z1.1) V.bot)))))))))) V.bot)))]), (V.bool true)]), [])
 else
 (ag0 ((getB (headD (tail (getT z1.1)) V.bot))) (l1) (i2) ((IntKind.wrap .i64 (i3 + (1 : Int)))) ((getI (headD (V.cells (headD (getT z1.1) V.bot)) V.bot))) ((getI (headD (tail (V.cells (headD (getT z1.1) V.bot))) V.bot))) ((getI (headD (tail (tail (V.cells (headD (getT z1.1) V.bot)))) V.bot))) ((getI (headD (tail (tail (tail (V.cells (headD (getT z1.1) V.bot))))) V.bot))) ((getI (headD (tail (tail (tail (tail (V.cells (headD (getT z1.1) V.bot)))))) V.bot))) ((getL (headD (tail (tail (tail (tail (tail (V.cells (headD (getT z1.1) V.bot))))))) V.bot))) ((getL (headD (tail (tail (tail (tail (tail (tail (V.cells (headD (getT z1.1) V.bot)))))))) V.bot))) ((getI (headD (tail (tail (tail (tail (tail (tail (tail (V.cells (headD (getT z1.1) V.bot))))))))) V.bot))) ((getI (headD (tail (tail (tail (tail (tail (tail (tail (tail (V.cells (headD (getT z1.1) V.bot)))))))))) V.bot))) (i13) (i14) (i15) (i16) (i17) (l18) (l19) (i20) (i21))))
 else
 if (i4 != (1 : Int)) = true then
 if (!false) = true then
 some ((V.tup [(V.agg [(V.int .i64 0), (V.int .i64 0), (V.int .i64 0), (V.int .i64 0), (V.int .i64 0), (V.lst 28 false []), (V.lst 24 false []), (V.int .i64 0), (V.int .i64 0)]), (V.bool false)]), [])
 else
 some ((V.tup [(V.agg [(V.int .i64 i4), (V.int .i64 i5), (V.int .i64 i6), (V.int .i64 i7), (V.int .i64 i8), (V.lst 28 false l9), (V.lst 24 false l10), (V.int .i64 i11), (V.int .i64 i12)]), (V.bool true)]), [])
 else
 Option.bind (call 50 [(V.agg [(V.int .i64 i4), (V.int .i64 i5), (V.int .i64 i6), (V.int .i64 i7), (V.int .i64 i8), (V.lst 28 false l9), (V.lst 24 false l10), (V.int .i64 i11), (V.int .i64 i12)]), (V.int .i64 (getI (getD l1 (Int.toNat i3) V.bot)))] []) fun z1 =>
 if (!(getB (headD (tail (getT z1.1)) V.bot))) = true then
 if (!(getB (headD (tail (getT z1.1)) V.bot))) = true then
 some ((V.tup [(V.agg [(V.int .i64 0), (V.int .i64 0), (V.int .i64 0), (V.int .i64 0), (V.int .i64 0), (V.lst 28 false []), (V.lst 24 false []), (V.int .i64 0), (V.int .i64 0)]), (V.bool false)]), [])
 else
 some ((V.tup [(V.agg [(V.int .i64 (getI (headD (V.cells (headD (getT z1.1) V.bot)) V.bot))), (V.int .i64 (getI (headD (tail (V.cells (headD (getT z1.1) V.bot))) V.bot))), (V.int .i64 (getI (headD (tail (tail (V.cells (headD (getT z1.1) V.bot)))) V.bot))), (V.int .i64 (getI (headD (tail (tail (tail (V.cells (headD (getT z1.1) V.bot))))) V.bot))), (V.int .i64 (getI (headD (tail (tail (tail (tail (V.cells (headD (getT z1.1) V.bot)))))) V.bot))), (V.lst 28 false (getL (headD (tail (tail (tail (tail (tail (V.cells (headD (getT z1.1) V.bot))))))) V.bot))), (V.lst 24 false (getL (headD (tail (tail (tail (tail (tail (tail (V.cells (headD (getT z1.1) V.bot)))))))) V.bot))), (V.int .i64 (getI (headD (tail (tail (tail (tail (tail (tail (tail (V.cells (headD (getT z1.1) V.bot))))))))) V.bot))), (V.int .i64 (getI (headD (tail (tail (tail (tail (tail (tail (tail (tail (V.cells (headD (getT z1.1) V.bot)))))))))) V.bot)))]), (V.bool true)]), [])
 else
 (ag0 ((getB (headD (tail (getT z1.1)) V.bot))) (l1) (i2) ((IntKind.wrap .i64 (i3 + (1 : Int)))) ((getI (headD (V.cells (headD (getT z1.1) V.bot)) V.bot))) ((getI (headD (tail (V.cells (headD (getT z1.1) V.bot))) V.bot))) ((getI (headD (tail (tail (V.cells (headD (getT z1.1) V.bot)))) V.bot))) ((getI (headD (tail (tail (tail (V.cells (headD (getT z1.1) V.bot))))) V.bot))) ((getI (headD (tail (tail (tail (tail (V.cells (headD (getT z1.1) V.bot)))))) V.bot))) ((getL (headD (tail (tail (tail (tail (tail (V.cells (headD (getT z1.1) V.bot))))))) V.bot))) ((getL (headD (tail (tail (tail (tail (tail (tail (V.cells (headD (getT z1.1) V.bot)))))))) V.bot))) ((getI (headD (tail (tail (tail (tail (tail (tail (tail (V.cells (headD (getT z1.1) V.bot))))))))) V.bot))) ((getI (headD (tail (tail (tail (tail (tail (tail (tail (tail (V.cells (headD (getT z1.1) V.bot)))))))))) V.bot))) (i13) (i14) (i15) (i16) (i17) (l18) (l19) (i20) (i21))
 else
 Option.bind (call 50 [(V.agg [(V.int .i64 i4), (V.int .i64 i5), (V.int .i64 i6), (V.int .i64 i7), (V.int .i64 i8), (V.lst 28 false l9), (V.lst 24 false l10), (V.int .i64 i11), (V.int .i64 i12)]), (V.int .i64 (getI (getD l1 (Int.toNat i3) V.bot)))] []) fun z0 =>
 if (!(getB (headD (tail (getT z0.1)) V.bot))) = true then
 if (!(getB (headD (tail (getT z0.1)) V.bot))) = true then
 some ((V.tup [(V.agg [(V.int .i64 0), (V.int .i64 0), (V.int .i64 0), (V.int .i64 0), (V.int .i64 0), (V.lst 28 false []), (V.lst 24 false []), (V.int .i64 0), (V.int .i64 0)]), (V.bool false)]), [])
 else
 some ((V.tup [(V.agg [(V.int .i64 (getI (headD (V.cells (headD (getT z0.1) V.bot)) V.bot))), (V.int .i64 (getI (headD (tail (V.cells (headD (getT z0.1) V.bot))) V.bot))), (V.int .i64 (getI (headD (tail (tail (V.cells (headD (getT z0.1) V.bot)))) V.bot))), (V.int .i64 (getI (headD (tail (tail (tail (V.cells (headD (getT z0.1) V.bot))))) V.bot))), (V.int .i64 (getI (headD (tail (tail (tail (tail (V.cells (headD (getT z0.1) V.bot)))))) V.bot))), (V.lst 28 false (getL (headD (tail (tail (tail (tail (tail (V.cells (headD (getT z0.1) V.bot))))))) V.bot))), (V.lst 24 false (getL (headD (tail (tail (tail (tail (tail (tail (V.cells (headD (getT z0.1) V.bot)))))))) V.bot))), (V.int .i64 (getI (headD (tail (tail (tail (tail (tail (tail (tail (V.cells (headD (getT z0.1) V.bot))))))))) V.bot))), (V.int .i64 (getI (headD (tail (tail (tail (tail (tail (tail (tail (tail (V.cells (headD (getT z0.1) V.bot)))))))))) V.bot)))]), (V.bool true)]), [])
 else
 (ag0 ((getB (headD (tail (getT z0.1)) V.bot))) (l1) (i2) ((IntKind.wrap .i64 (i3 + (1 : Int)))) ((getI (headD (V.cells (headD (getT z0.1) V.bot)) V.bot))) ((getI (headD (tail (V.cells (headD (getT z0.1) V.bot))) V.bot))) ((getI (headD (tail (tail (V.cells (headD (getT z0.1) V.bot)))) V.bot))) ((getI (headD (tail (tail (tail (V.cells (headD (getT z0.1) V.bot))))) V.bot))) ((getI (headD (tail (tail (tail (tail (V.cells (headD (getT z0.1) V.bot)))))) V.bot))) ((getL (headD (tail (tail (tail (tail (tail (V.cells (headD (getT z0.1) V.bot))))))) V.bot))) ((getL (headD (tail (tail (tail (tail (tail (tail (V.cells (headD (getT z0.1) V.bot)))))))) V.bot))) ((getI (headD (tail (tail (tail (tail (tail (tail (tail (V.cells (headD (getT z0.1) V.bot))))))))) V.bot))) ((getI (headD (tail (tail (tail (tail (tail (tail (tail (tail (V.cells (headD (getT z0.1) V.bot)))))))))) V.bot))) (i13) (i14) (i15) (i16) (i17) (l18) (l19) (i20) (i21))))
 else
 if (!b0) = true then
 some ((V.tup [(V.agg [(V.int .i64 0), (V.int .i64 0), (V.int .i64 0), (V.int .i64 0), (V.int .i64 0), (V.lst 28 false []), (V.lst 24 false []), (V.int .i64 0), (V.int .i64 0)]), (V.bool false)]), [])
 else
 some ((V.tup [(V.agg [(V.int .i64 i4), (V.int .i64 i5), (V.int .i64 i6), (V.int .i64 i7), (V.int .i64 i8), (V.lst 28 false l9), (V.lst 24 false l10), (V.int .i64 i11), (V.int .i64 i12)]), (V.bool true)]), [])
def T36 (call : FuncId → Fun) (ag0 : Bool → List V → Int → Int → Int → Int → Int → Int → Int → List V → List V → Int → Int → Int → Int → Int → Int → Int → List V → List V → Int → Int → Option (V × List Ob)) (a0 : Int) (a1 : Int) (a2 : Int) (a3 : Int) (a4 : Int) (a5 : List V) (a6 : List V) (a7 : Int) (a8 : Int) (a9 : List V) : Option (V × List Ob) :=
 (ag0 (false) (a9) (((length a9 : Nat) : Int)) ((0 : Int)) (a0) (a1) (a2) (a3) (a4) (a5) (a6) (a7) (a8) ((0 : Int)) ((0 : Int)) ((0 : Int)) ((0 : Int)) ((0 : Int)) ([]) ([]) ((0 : Int)) ((0 : Int)))
def A36 (a0 : Int) (a1 : Int) (a2 : Int) (a3 : Int) (a4 : Int) (a5 : List V) (a6 : List V) (a7 : Int) (a8 : Int) (a9 : List V) : List V := [V.agg [V.int IntKind.i64 a0, V.int IntKind.i64 a1, V.int IntKind.i64 a2, V.int IntKind.i64 a3, V.int IntKind.i64 a4, V.lst 28 false a5, V.lst 24 false a6, V.int IntKind.i64 a7, V.int IntKind.i64 a8], V.lst 3 false a9]
def K36_0 (b0 : Bool) (l1 : List V) (i2 : Int) (i3 : Int) (i4 : Int) (i5 : Int) (i6 : Int) (i7 : Int) (i8 : Int) (l9 : List V) (l10 : List V) (i11 : Int) (i12 : Int) (i13 : Int) (i14 : Int) (i15 : Int) (i16 : Int) (i17 : Int) (l18 : List V) (l19 : List V) (i20 : Int) (i21 : Int) : St := ⟨[V.bot, V.bot, (V.ref 0 0), V.bot, (V.ref 1 0), V.bot, (V.bool b0), V.bot, V.bot, (V.lst 3 false l1), (V.int IntKind.i64 i2), (V.int IntKind.i64 i3)] ++ List.replicate 37 V.bot, [(Ob.cells [(V.int IntKind.i64 i4), (V.int IntKind.i64 i5), (V.int IntKind.i64 i6), (V.int IntKind.i64 i7), (V.int IntKind.i64 i8), (V.lst 28 false l9), (V.lst 24 false l10), (V.int IntKind.i64 i11), (V.int IntKind.i64 i12)]), (Ob.cells [(V.int IntKind.i64 i13), (V.int IntKind.i64 i14), (V.int IntKind.i64 i15), (V.int IntKind.i64 i16), (V.int IntKind.i64 i17), (V.lst 28 true l18), (V.lst 24 true l19), (V.int IntKind.i64 i20), (V.int IntKind.i64 i21)])]⟩
theorem S36_0 (b0 : Bool) (l1 : List V) (i2 : Int) (i3 : Int) (i4 : Int) (i5 : Int) (i6 : Int) (i7 : Int) (i8 : Int) (l9 : List V) (l10 : List V) (i11 : Int) (i12 : Int) (i13 : Int) (i14 : Int) (i15 : Int) (i16 : Int) (i17 : Int) (l18 : List V) (l19 : List V) (i20 : Int) (i21 : Int) :
 RM 36 Tryd.f36 [] call icall again (tdOf Tryd.f36 0) (K36_0 b0 l1 i2 i3 i4 i5 i6 i7 i8 l9 l10 i11 i12 i13 i14 i15 i16 i17 l18 l19 i20 i21) = T36_0 call (fun b0 l1 i2 i3 i4 i5 i6 i7 i8 l9 l10 i11 i12 i13 i14 i15 i16 i17 l18 l19 i20 i21 => again (tdOf Tryd.f36 0) (K36_0 b0 l1 i2 i3 i4 i5 i6 i7 i8 l9 l10 i11 i12 i13 i14 i15 i16 i17 l18 l19 i20 i21)) b0 l1 i2 i3 i4 i5 i6 i7 i8 l9 l10 i11 i12 i13 i14 i15 i16 i17 l18 l19 i20 i21 := by kernel_rfl
theorem E36 (a0 : Int) (a1 : Int) (a2 : Int) (a3 : Int) (a4 : Int) (a5 : List V) (a6 : List V) (a7 : Int) (a8 : Int) (a9 : List V) : GO 36 Tryd.f36 (A36 a0 a1 a2 a3 a4 a5 a6 a7 a8 a9) [] call icall again = T36 call (fun b0 l1 i2 i3 i4 i5 i6 i7 i8 l9 l10 i11 i12 i13 i14 i15 i16 i17 l18 l19 i20 i21 => again (tdOf Tryd.f36 0) (K36_0 b0 l1 i2 i3 i4 i5 i6 i7 i8 l9 l10 i11 i12 i13 i14 i15 i16 i17 l18 l19 i20 i21)) a0 a1 a2 a3 a4 a5 a6 a7 a8 a9 := by kernel_rfl
def L36 (call : FuncId → Fun) : Nat → (Bool → List V → Int → Int → Int → Int → Int → Int → Int → List V → List V → Int → Int → Int → Int → Int → Int → Int → List V → List V → Int → Int → Option (V × List Ob))
 | 0 => fun _ _ _ _ _ _ _ _ _ _ _ _ _ _ _ _ _ _ _ _ _ _ => none
 | n + 1 => T36_0 call (L36 call n)
theorem R36 (call : FuncId → Fun) (icall : ICall (V × List Ob)) : ∀ n, (∀ (b0 : Bool) (l1 : List V) (i2 : Int) (i3 : Int) (i4 : Int) (i5 : Int) (i6 : Int) (i7 : Int) (i8 : Int) (l9 : List V) (l10 : List V) (i11 : Int) (i12 : Int) (i13 : Int) (i14 : Int) (i15 : Int) (i16 : Int) (i17 : Int) (l18 : List V) (l19 : List V) (i20 : Int) (i21 : Int), RN 36 Tryd.f36 [] call icall n (tdOf Tryd.f36 0) (K36_0 b0 l1 i2 i3 i4 i5 i6 i7 i8 l9 l10 i11 i12 i13 i14 i15 i16 i17 l18 l19 i20 i21) = (L36 call n) b0 l1 i2 i3 i4 i5 i6 i7 i8 l9 l10 i11 i12 i13 i14 i15 i16 i17 l18 l19 i20 i21)
  | 0 => fun b0 l1 i2 i3 i4 i5 i6 i7 i8 l9 l10 i11 i12 i13 i14 i15 i16 i17 l18 l19 i20 i21 => rfl
  | n + 1 => by
    have ih := R36 call icall n
    exact fun b0 l1 i2 i3 i4 i5 i6 i7 i8 l9 l10 i11 i12 i13 i14 i15 i16 i17 l18 l19 i20 i21 => (S36_0 call icall (RN 36 Tryd.f36 [] call icall n) b0 l1 i2 i3 i4 i5 i6 i7 i8 l9 l10 i11 i12 i13 i14 i15 i16 i17 l18 l19 i20 i21).trans (by rw [show (fun b0 l1 i2 i3 i4 i5 i6 i7 i8 l9 l10 i11 i12 i13 i14 i15 i16 i17 l18 l19 i20 i21 => RN 36 Tryd.f36 [] call icall n (tdOf Tryd.f36 0) (K36_0 b0 l1 i2 i3 i4 i5 i6 i7 i8 l9 l10 i11 i12 i13 i14 i15 i16 i17 l18 l19 i20 i21)) = (L36 call n) from (funext fun b0 => funext fun l1 => funext fun i2 => funext fun i3 => funext fun i4 => funext fun i5 => funext fun i6 => funext fun i7 => funext fun i8 => funext fun l9 => funext fun l10 => funext fun i11 => funext fun i12 => funext fun i13 => funext fun i14 => funext fun i15 => funext fun i16 => funext fun i17 => funext fun l18 => funext fun l19 => funext fun i20 => funext fun i21 => ih b0 l1 i2 i3 i4 i5 i6 i7 i8 l9 l10 i11 i12 i13 i14 i15 i16 i17 l18 l19 i20 i21)]; rfl)
theorem C36 (k : Nat) (a0 : Int) (a1 : Int) (a2 : Int) (a3 : Int) (a4 : Int) (a5 : List V) (a6 : List V) (a7 : Int) (a8 : Int) (a9 : List V) : callN cfg (k + 1) 36 (A36 a0 a1 a2 a3 a4 a5 a6 a7 a8 a9) [] = T36 (callN cfg k) (L36 (callN cfg k) k) a0 a1 a2 a3 a4 a5 a6 a7 a8 a9 := by
 have ih := R36 (callN cfg k) (icallN cfg (callN cfg k) 20) k
 refine (show callN cfg (k + 1) 36 (A36 a0 a1 a2 a3 a4 a5 a6 a7 a8 a9) [] = GO 36 Tryd.f36 (A36 a0 a1 a2 a3 a4 a5 a6 a7 a8 a9) [] (callN cfg k) (icallN cfg (callN cfg k) 20) (RN 36 Tryd.f36 [] (callN cfg k) (icallN cfg (callN cfg k) 20) k) by kernel_rfl).trans ((E36 _ _ _ a0 a1 a2 a3 a4 a5 a6 a7 a8 a9).trans ?_)
 rw [show (fun b0 l1 i2 i3 i4 i5 i6 i7 i8 l9 l10 i11 i12 i13 i14 i15 i16 i17 l18 l19 i20 i21 => RN 36 Tryd.f36 [] (callN cfg k) (icallN cfg (callN cfg k) 20) k (tdOf Tryd.f36 0) (K36_0 b0 l1 i2 i3 i4 i5 i6 i7 i8 l9 l10 i11 i12 i13 i14 i15 i16 i17 l18 l19 i20 i21)) = (L36 (callN cfg k) k) from (funext fun b0 => funext fun l1 => funext fun i2 => funext fun i3 => funext fun i4 => funext fun i5 => funext fun i6 => funext fun i7 => funext fun i8 => funext fun l9 => funext fun l10 => funext fun i11 => funext fun i12 => funext fun i13 => funext fun i14 => funext fun i15 => funext fun i16 => funext fun i17 => funext fun l18 => funext fun l19 => funext fun i20 => funext fun i21 => ih b0 l1 i2 i3 i4 i5 i6 i7 i8 l9 l10 i11 i12 i13 i14 i15 i16 i17 l18 l19 i20 i21)]
theorem M36 (a0 : Int) (a1 : Int) (a2 : Int) (a3 : Int) (a4 : Int) (a5 : List V) (a6 : List V) (a7 : Int) (a8 : Int) (a9 : List V) {r : V × List Ob} (h : Evt (fun k n => T36 (callN cfg k) (L36 (callN cfg k) n) a0 a1 a2 a3 a4 a5 a6 a7 a8 a9) r) : Ret 36 [V.agg [V.int IntKind.i64 a0, V.int IntKind.i64 a1, V.int IntKind.i64 a2, V.int IntKind.i64 a3, V.int IntKind.i64 a4, V.lst 28 false a5, V.lst 24 false a6, V.int IntKind.i64 a7, V.int IntKind.i64 a8], V.lst 3 false a9] [] r := ret_mk (g := fun k n => T36 (callN cfg k) (L36 (callN cfg k) n) a0 a1 a2 a3 a4 a5 a6 a7 a8 a9) (fun k => C36 k a0 a1 a2 a3 a4 a5 a6 a7 a8 a9) h
theorem N36_0 (b0 : Bool) (l1 : List V) (i2 : Int) (i3 : Int) (i4 : Int) (i5 : Int) (i6 : Int) (i7 : Int) (i8 : Int) (l9 : List V) (l10 : List V) (i11 : Int) (i12 : Int) (i13 : Int) (i14 : Int) (i15 : Int) (i16 : Int) (i17 : Int) (l18 : List V) (l19 : List V) (i20 : Int) (i21 : Int) {r : V × List Ob} (h : Evt (fun k n => T36_0 (callN cfg k) (L36 (callN cfg k) n) b0 l1 i2 i3 i4 i5 i6 i7 i8 l9 l10 i11 i12 i13 i14 i15 i16 i17 l18 l19 i20 i21) r) : Evt (fun k n => (L36 (callN cfg k) n) b0 l1 i2 i3 i4 i5 i6 i7 i8 l9 l10 i11 i12 i13 i14 i15 i16 i17 l18 l19 i20 i21) r := evt_step (fun k n => rfl) h
def T51_0 (call : FuncId → Fun) (ag0 : Bool → List V → Int → Int → List V → Int → List V → Bool → Int → Int → Option (V × List Ob)) (ag1 : Bool → List V → Int → Int → List V → Int → List V → Bool → Int → Int → Option (V × List Ob)) (b0 : Bool) (l1 : List V) (i2 : Int) (i3 : Int) (l4 : List V) (i5 : Int) (l6 : List V) (b7 : Bool) (i8 : Int) (i9 : Int) : Option (V × List Ob) :=
 if (decide (i3 < i2)) = true then
 chk (decide (0 ≤ i3)) (chk (decide (i3 < ((length l1 : Nat) : Int))) (if b0 = true then
 Option.bind (call 69 [(V.int .i64 (getI (getD l1 (Int.toNat i3) V.bot))), (V.int .i64 1)] []) fun z0 =>
 (ag0 ((getB z0.1)) (l1) (i2) ((IntKind.wrap .i64 (i3 + (1 : Int)))) (l4) (i5) (l6) (b7) (i8) (i9))
 else
 (ag0 (false) (l1) (i2) ((IntKind.wrap .i64 (i3 + (1 : Int)))) (l4) (i5) (l6) (b7) (i8) (i9))))
 else
 (ag1 (b0) (l6) (((length l6 : Nat) : Int)) ((0 : Int)) (l4) (i5) (l6) (b7) (i8) (i9))
def T51_1 (call : FuncId → Fun) (ag0 : Bool → List V → Int → Int → List V → Int → List V → Bool → Int → Int → Option (V × List Ob)) (ag1 : Bool → List V → Int → Int → List V → Int → List V → Bool → Int → Int → Option (V × List Ob)) (b0 : Bool) (l1 : List V) (i2 : Int) (i3 : Int) (l4 : List V) (i5 : Int) (l6 : List V) (b7 : Bool) (i8 : Int) (i9 : Int) : Option (V × List Ob) :=
 if (decide (i3 < i2)) = true then
 chk (decide (0 ≤ i3)) (chk (decide (i3 < ((length l1 : Nat) : Int))) (if b0 = true then
 Option.bind (call 70 [(V.str (getS (getD l1 (Int.toNat i3) V.bot)))] []) fun z0 =>
 (ag1 ((getB z0.1)) (l1) (i2) ((IntKind.wrap .i64 (i3 + (1 : Int)))) (l4) (i5) (l6) (b7) (i8) (i9))
 else
 (ag1 (false) (l1) (i2) ((IntKind.wrap .i64 (i3 + (1 : Int)))) (l4) (i5) (l6) (b7) (i8) (i9))))
 else
 Option.bind (call 71 [(V.agg [(V.lst 3 false l4), (V.int .i64 i5), (V.lst 9 false l6), (V.bool b7), (V.int .i64 i8), (V.int .i64 i9)])] []) fun z0 =>
 if (getB z0.1) = true then
 Option.bind (if b0 = true then
 if (decide (((length l6 : Nat) : Int) ≥ (1 : Int))) = true then
 some (decide (((length l6 : Nat) : Int) ≤ (100 : Int)))
 else
 some false
 else
 some false) fun y1 =>
 if b7 = true then
 if y1 = true then
 Option.bind (call 69 [(V.int .i64 i8), (V.int .i64 0)] []) fun z2 =>
 if (getB z2.1) = true then
 Option.bind (call 69 [(V.int .i64 i9), (V.int .i64 1)] []) fun z3 =>
 if (!(getB z3.1)) = true then
 some ((V.int .i64 1), [])
 else
 some ((V.int .i64 0), [])
 else
 if (!false) = true then
 some ((V.int .i64 1), [])
 else
 some ((V.int .i64 0), [])
 else
 if (!false) = true then
 some ((V.int .i64 1), [])
 else
 some ((V.int .i64 0), [])
 else
 Option.bind (if y1 = true then
 if (i8 == (0 : Int)) = true then
 some (i9 == (0 : Int))
 else
 some false
 else
 some false) fun y2 =>
 if (!y2) = true then
 some ((V.int .i64 1), [])
 else
 some ((V.int .i64 0), [])
 else
 Option.bind (if b0 = true then
 some (((length l6 : Nat) : Int) == (0 : Int))
 else
 some false) fun y1 =>
 if b7 = true then
 if y1 = true then
 Option.bind (call 69 [(V.int .i64 i8), (V.int .i64 0)] []) fun z2 =>
 if (getB z2.1) = true then
 Option.bind (call 69 [(V.int .i64 i9), (V.int .i64 1)] []) fun z3 =>
 if (!(getB z3.1)) = true then
 some ((V.int .i64 1), [])
 else
 some ((V.int .i64 0), [])
 else
 if (!false) = true then
 some ((V.int .i64 1), [])
 else
 some ((V.int .i64 0), [])
 else
 if (!false) = true then
 some ((V.int .i64 1), [])
 else
 some ((V.int .i64 0), [])
 else
 Option.bind (if y1 = true then
 if (i8 == (0 : Int)) = true then
 some (i9 == (0 : Int))
 else
 some false
 else
 some false) fun y2 =>
 if (!y2) = true then
 some ((V.int .i64 1), [])
 else
 some ((V.int .i64 0), [])
def T51 (call : FuncId → Fun) (ag0 : Bool → List V → Int → Int → List V → Int → List V → Bool → Int → Int → Option (V × List Ob)) (ag1 : Bool → List V → Int → Int → List V → Int → List V → Bool → Int → Int → Option (V × List Ob)) (a0 : List V) (a1 : Int) (a2 : List V) (a3 : Bool) (a4 : Int) (a5 : Int) : Option (V × List Ob) :=
 Option.bind (if (decide (((length a0 : Nat) : Int) ≤ (64 : Int))) = true then
 if (decide (a1 ≥ (0 : Int))) = true then
 if (decide (a1 ≤ (5 : Int))) = true then
 if (a1 != (5 : Int)) = false then
 some (decide (((length a0 : Nat) : Int) > (0 : Int)))
 else
 some true
 else
 some false
 else
 some false
 else
 some false) fun y0 =>
 (ag0 (y0) (a0) (((length a0 : Nat) : Int)) ((0 : Int)) (a0) (a1) (a2) (a3) (a4) (a5))
def A51 (a0 : List V) (a1 : Int) (a2 : List V) (a3 : Bool) (a4 : Int) (a5 : Int) : List V := [V.agg [V.lst 3 false a0, V.int IntKind.i64 a1, V.lst 9 false a2, V.bool a3, V.int IntKind.i64 a4, V.int IntKind.i64 a5]]
def K51_0 (b0 : Bool) (l1 : List V) (i2 : Int) (i3 : Int) (l4 : List V) (i5 : Int) (l6 : List V) (b7 : Bool) (i8 : Int) (i9 : Int) : St := ⟨[V.bot, (V.ref 0 0), V.bot, (V.bool b0), V.bot, V.bot, V.bot, V.bot, V.bot, V.bot, V.bot, V.bot, V.bot, V.bot, V.bot, V.bot, V.bot, V.bot, V.bot, V.bot, V.bot, V.bot, V.bot, V.bot, V.bot, V.bot, V.bot, V.bot, V.bot, V.bot, V.bot, V.bot, V.bot, V.bot, (V.lst 3 false l1), (V.int IntKind.i64 i2), (V.int IntKind.i64 i3)] ++ List.replicate 70 V.bot, [(Ob.cells [(V.lst 3 false l4), (V.int IntKind.i64 i5), (V.lst 9 false l6), (V.bool b7), (V.int IntKind.i64 i8), (V.int IntKind.i64 i9)])]⟩
def K51_1 (b0 : Bool) (l1 : List V) (i2 : Int) (i3 : Int) (l4 : List V) (i5 : Int) (l6 : List V) (b7 : Bool) (i8 : Int) (i9 : Int) : St := ⟨[V.bot, (V.ref 0 0), V.bot, (V.bool b0), V.bot, V.bot, V.bot, V.bot, V.bot, V.bot, V.bot, V.bot, V.bot, V.bot, V.bot, V.bot, V.bot, V.bot, V.bot, V.bot, V.bot, V.bot, V.bot, V.bot, V.bot, V.bot, V.bot, V.bot, V.bot, V.bot, V.bot, V.bot, V.bot, V.bot, V.bot, V.bot, V.bot, V.bot, V.bot, V.bot, V.bot, V.bot, V.bot, V.bot, V.bot, V.bot, V.bot, (V.lst 9 false l1), (V.int IntKind.i64 i2), (V.int IntKind.i64 i3)] ++ List.replicate 57 V.bot, [(Ob.cells [(V.lst 3 false l4), (V.int IntKind.i64 i5), (V.lst 9 false l6), (V.bool b7), (V.int IntKind.i64 i8), (V.int IntKind.i64 i9)])]⟩
theorem S51_0 (b0 : Bool) (l1 : List V) (i2 : Int) (i3 : Int) (l4 : List V) (i5 : Int) (l6 : List V) (b7 : Bool) (i8 : Int) (i9 : Int) :
 RM 51 Tryd.f51 [] call icall again (tdOf Tryd.f51 0) (K51_0 b0 l1 i2 i3 l4 i5 l6 b7 i8 i9) = T51_0 call (fun b0 l1 i2 i3 l4 i5 l6 b7 i8 i9 => again (tdOf Tryd.f51 0) (K51_0 b0 l1 i2 i3 l4 i5 l6 b7 i8 i9)) (fun b0 l1 i2 i3 l4 i5 l6 b7 i8 i9 => again (tdOf Tryd.f51 1) (K51_1 b0 l1 i2 i3 l4 i5 l6 b7 i8 i9)) b0 l1 i2 i3 l4 i5 l6 b7 i8 i9 := by kernel_rfl
theorem S51_1 (b0 : Bool) (l1 : List V) (i2 : Int) (i3 : Int) (l4 : List V) (i5 : Int) (l6 : List V) (b7 : Bool) (i8 : Int) (i9 : Int) :
 RM 51 Tryd.f51 [] call icall again (tdOf Tryd.f51 1) (K51_1 b0 l1 i2 i3 l4 i5 l6 b7 i8 i9) = T51_1 call (fun b0 l1 i2 i3 l4 i5 l6 b7 i8 i9 => again (tdOf Tryd.f51 0) (K51_0 b0 l1 i2 i3 l4 i5 l6 b7 i8 i9)) (fun b0 l1 i2 i3 l4 i5 l6 b7 i8 i9 => again (tdOf Tryd.f51 1) (K51_1 b0 l1 i2 i3 l4 i5 l6 b7 i8 i9)) b0 l1 i2 i3 l4 i5 l6 b7 i8 i9 := by kernel_rfl
theorem E51 (a0 : List V) (a1 : Int) (a2 : List V) (a3 : Bool) (a4 : Int) (a5 : Int) : GO 51 Tryd.f51 (A51 a0 a1 a2 a3 a4 a5) [] call icall again = T51 call (fun b0 l1 i2 i3 l4 i5 l6 b7 i8 i9 => again (tdOf Tryd.f51 0) (K51_0 b0 l1 i2 i3 l4 i5 l6 b7 i8 i9)) (fun b0 l1 i2 i3 l4 i5 l6 b7 i8 i9 => again (tdOf Tryd.f51 1) (K51_1 b0 l1 i2 i3 l4 i5 l6 b7 i8 i9)) a0 a1 a2 a3 a4 a5 := by kernel_rfl
def L51 (call : FuncId → Fun) : Nat → (Bool → List V → Int → Int → List V → Int → List V → Bool → Int → Int → Option (V × List Ob)) × (Bool → List V → Int → Int → List V → Int → List V → Bool → Int → Int → Option (V × List Ob))
 | 0 => ⟨fun _ _ _ _ _ _ _ _ _ _ => none, fun _ _ _ _ _ _ _ _ _ _ => none⟩
 | n + 1 => ⟨T51_0 call (L51 call n).1 (L51 call n).2, T51_1 call (L51 call n).1 (L51 call n).2⟩
theorem R51 (call : FuncId → Fun) (icall : ICall (V × List Ob)) : ∀ n, (∀ (b0 : Bool) (l1 : List V) (i2 : Int) (i3 : Int) (l4 : List V) (i5 : Int) (l6 : List V) (b7 : Bool) (i8 : Int) (i9 : Int), RN 51 Tryd.f51 [] call icall n (tdOf Tryd.f51 0) (K51_0 b0 l1 i2 i3 l4 i5 l6 b7 i8 i9) = (L51 call n).1 b0 l1 i2 i3 l4 i5 l6 b7 i8 i9) ∧ (∀ (b0 : Bool) (l1 : List V) (i2 : Int) (i3 : Int) (l4 : List V) (i5 : Int) (l6 : List V) (b7 : Bool) (i8 : Int) (i9 : Int), RN 51 Tryd.f51 [] call icall n (tdOf Tryd.f51 1) (K51_1 b0 l1 i2 i3 l4 i5 l6 b7 i8 i9) = (L51 call n).2 b0 l1 i2 i3 l4 i5 l6 b7 i8 i9)
  | 0 => ⟨fun b0 l1 i2 i3 l4 i5 l6 b7 i8 i9 => rfl, fun b0 l1 i2 i3 l4 i5 l6 b7 i8 i9 => rfl⟩
  | n + 1 => by
    have ih := R51 call icall n
    exact ⟨fun b0 l1 i2 i3 l4 i5 l6 b7 i8 i9 => (S51_0 call icall (RN 51 Tryd.f51 [] call icall n) b0 l1 i2 i3 l4 i5 l6 b7 i8 i9).trans (by rw [show (fun b0 l1 i2 i3 l4 i5 l6 b7 i8 i9 => RN 51 Tryd.f51 [] call icall n (tdOf Tryd.f51 0) (K51_0 b0 l1 i2 i3 l4 i5 l6 b7 i8 i9)) = (L51 call n).1 from (funext fun b0 => funext fun l1 => funext fun i2 => funext fun i3 => funext fun l4 => funext fun i5 => funext fun l6 => funext fun b7 => funext fun i8 => funext fun i9 => ih.1 b0 l1 i2 i3 l4 i5 l6 b7 i8 i9), show (fun b0 l1 i2 i3 l4 i5 l6 b7 i8 i9 => RN 51 Tryd.f51 [] call icall n (tdOf Tryd.f51 1) (K51_1 b0 l1 i2 i3 l4 i5 l6 b7 i8 i9)) = (L51 call n).2 from (funext fun b0 => funext fun l1 => funext fun i2 => funext fun i3 => funext fun l4 => funext fun i5 => funext fun l6 => funext fun b7 => funext fun i8 => funext fun i9 => ih.2 b0 l1 i2 i3 l4 i5 l6 b7 i8 i9)]; rfl),
      fun b0 l1 i2 i3 l4 i5 l6 b7 i8 i9 => (S51_1 call icall (RN 51 Tryd.f51 [] call icall n) b0 l1 i2 i3 l4 i5 l6 b7 i8 i9).trans (by rw [show (fun b0 l1 i2 i3 l4 i5 l6 b7 i8 i9 => RN 51 Tryd.f51 [] call icall n (tdOf Tryd.f51 0) (K51_0 b0 l1 i2 i3 l4 i5 l6 b7 i8 i9)) = (L51 call n).1 from (funext fun b0 => funext fun l1 => funext fun i2 => funext fun i3 => funext fun l4 => funext fun i5 => funext fun l6 => funext fun b7 => funext fun i8 => funext fun i9 => ih.1 b0 l1 i2 i3 l4 i5 l6 b7 i8 i9), show (fun b0 l1 i2 i3 l4 i5 l6 b7 i8 i9 => RN 51 Tryd.f51 [] call icall n (tdOf Tryd.f51 1) (K51_1 b0 l1 i2 i3 l4 i5 l6 b7 i8 i9)) = (L51 call n).2 from (funext fun b0 => funext fun l1 => funext fun i2 => funext fun i3 => funext fun l4 => funext fun i5 => funext fun l6 => funext fun b7 => funext fun i8 => funext fun i9 => ih.2 b0 l1 i2 i3 l4 i5 l6 b7 i8 i9)]; rfl)⟩
theorem C51 (k : Nat) (a0 : List V) (a1 : Int) (a2 : List V) (a3 : Bool) (a4 : Int) (a5 : Int) : callN cfg (k + 1) 51 (A51 a0 a1 a2 a3 a4 a5) [] = T51 (callN cfg k) (L51 (callN cfg k) k).1 (L51 (callN cfg k) k).2 a0 a1 a2 a3 a4 a5 := by
 have ih := R51 (callN cfg k) (icallN cfg (callN cfg k) 20) k
 refine (show callN cfg (k + 1) 51 (A51 a0 a1 a2 a3 a4 a5) [] = GO 51 Tryd.f51 (A51 a0 a1 a2 a3 a4 a5) [] (callN cfg k) (icallN cfg (callN cfg k) 20) (RN 51 Tryd.f51 [] (callN cfg k) (icallN cfg (callN cfg k) 20) k) by kernel_rfl).trans ((E51 _ _ _ a0 a1 a2 a3 a4 a5).trans ?_)
 rw [show (fun b0 l1 i2 i3 l4 i5 l6 b7 i8 i9 => RN 51 Tryd.f51 [] (callN cfg k) (icallN cfg (callN cfg k) 20) k (tdOf Tryd.f51 0) (K51_0 b0 l1 i2 i3 l4 i5 l6 b7 i8 i9)) = (L51 (callN cfg k) k).1 from (funext fun b0 => funext fun l1 => funext fun i2 => funext fun i3 => funext fun l4 => funext fun i5 => funext fun l6 => funext fun b7 => funext fun i8 => funext fun i9 => ih.1 b0 l1 i2 i3 l4 i5 l6 b7 i8 i9), show (fun b0 l1 i2 i3 l4 i5 l6 b7 i8 i9 => RN 51 Tryd.f51 [] (callN cfg k) (icallN cfg (callN cfg k) 20) k (tdOf Tryd.f51 1) (K51_1 b0 l1 i2 i3 l4 i5 l6 b7 i8 i9)) = (L51 (callN cfg k) k).2 from (funext fun b0 => funext fun l1 => funext fun i2 => funext fun i3 => funext fun l4 => funext fun i5 => funext fun l6 => funext fun b7 => funext fun i8 => funext fun i9 => ih.2 b0 l1 i2 i3 l4 i5 l6 b7 i8 i9)]
theorem M51 (a0 : List V) (a1 : Int) (a2 : List V) (a3 : Bool) (a4 : Int) (a5 : Int) {r : V × List Ob} (h : Evt (fun k n => T51 (callN cfg k) (L51 (callN cfg k) n).1 (L51 (callN cfg k) n).2 a0 a1 a2 a3 a4 a5) r) : Ret 51 [V.agg [V.lst 3 false a0, V.int IntKind.i64 a1, V.lst 9 false a2, V.bool a3, V.int IntKind.i64 a4, V.int IntKind.i64 a5]] [] r := ret_mk (g := fun k n => T51 (callN cfg k) (L51 (callN cfg k) n).1 (L51 (callN cfg k) n).2 a0 a1 a2 a3 a4 a5) (fun k => C51 k a0 a1 a2 a3 a4 a5) h
theorem N51_0 (b0 : Bool) (l1 : List V) (i2 : Int) (i3 : Int) (l4 : List V) (i5 : Int) (l6 : List V) (b7 : Bool) (i8 : Int) (i9 : Int) {r : V × List Ob} (h : Evt (fun k n => T51_0 (callN cfg k) (L51 (callN cfg k) n).1 (L51 (callN cfg k) n).2 b0 l1 i2 i3 l4 i5 l6 b7 i8 i9) r) : Evt (fun k n => (L51 (callN cfg k) n).1 b0 l1 i2 i3 l4 i5 l6 b7 i8 i9) r := evt_step (fun k n => rfl) h
theorem N51_1 (b0 : Bool) (l1 : List V) (i2 : Int) (i3 : Int) (l4 : List V) (i5 : Int) (l6 : List V) (b7 : Bool) (i8 : Int) (i9 : Int) {r : V × List Ob} (h : Evt (fun k n => T51_1 (callN cfg k) (L51 (callN cfg k) n).1 (L51 (callN cfg k) n).2 b0 l1 i2 i3 l4 i5 l6 b7 i8 i9) r) : Evt (fun k n => (L51 (callN cfg k) n).2 b0 l1 i2 i3 l4 i5 l6 b7 i8 i9) r := evt_step (fun k n => rfl) h
def T52 (call : FuncId → Fun) (a0 : List V) (a1 : Int) (a2 : Int) (a3 : Int) (a4 : Int) (a5 : Int) (a6 : List V) (a7 : List V) (a8 : Int) (a9 : Int) (a10 : List V) (a11 : Int) (a12 : List V) (a13 : Bool) (a14 : Int) (a15 : Int) : Option (V × List Ob) :=
 if (a11 == (0 : Int)) = true then
 Option.bind (call 53 [(V.lst 5 false a0), (V.agg [(V.int .i64 a2), (V.int .i64 a5)])] []) fun z0 =>
 some ((V.lst 5 false (getL z0.1)), [])
 else
 if (a11 == (1 : Int)) = true then
 Option.bind (call 53 [(V.lst 5 false a0), (V.agg [(V.int .i64 a2), (V.int .i64 a3)])] []) fun z0 =>
 some ((V.lst 5 false (getL z0.1)), [])
 else
 if (a11 == (4 : Int)) = true then
 Option.bind (call 53 [(V.lst 5 false a0), (V.agg [(V.int .i64 a4), (V.int .i64 a5)])] []) fun z0 =>
 some ((V.lst 5 false (getL z0.1)), [])
 else
 if (a11 == (3 : Int)) = true then
 Option.bind (call 39 [(V.lst 5 false a0), (V.agg [(V.int .i64 a2), (V.int .i64 a3)])] []) fun z0 =>
 Option.bind (call 72 [(V.lst 5 false a0), (V.lst 109 false (getL (headD (getT z0.1) V.bot))), (V.lst 9 false a12), (V.bool true)] []) fun z1 =>
 some ((V.lst 5 false (getL z1.1)), [])
 else
 if (a11 == (2 : Int)) = true then
 Option.bind (call 39 [(V.lst 5 false a0), (V.agg [(V.int .i64 a2), (V.int .i64 a3)])] []) fun z0 =>
 Option.bind (call 72 [(V.lst 5 false a0), (V.lst 109 false (getL (headD (getT z0.1) V.bot))), (V.lst 9 false a12), (V.bool false)] []) fun z1 =>
 some ((V.lst 5 false (getL z1.1)), [])
 else
 some ((V.lst 5 false []), [])
def A52 (a0 : List V) (a1 : Int) (a2 : Int) (a3 : Int) (a4 : Int) (a5 : Int) (a6 : List V) (a7 : List V) (a8 : Int) (a9 : Int) (a10 : List V) (a11 : Int) (a12 : List V) (a13 : Bool) (a14 : Int) (a15 : Int) : List V := [V.lst 5 false a0, V.agg [V.int IntKind.i64 a1, V.int IntKind.i64 a2, V.int IntKind.i64 a3, V.int IntKind.i64 a4, V.int IntKind.i64 a5, V.lst 28 false a6, V.lst 24 false a7, V.int IntKind.i64 a8, V.int IntKind.i64 a9], V.agg [V.lst 3 false a10, V.int IntKind.i64 a11, V.lst 9 false a12, V.bool a13, V.int IntKind.i64 a14, V.int IntKind.i64 a15]]
theorem E52 (a0 : List V) (a1 : Int) (a2 : Int) (a3 : Int) (a4 : Int) (a5 : Int) (a6 : List V) (a7 : List V) (a8 : Int) (a9 : Int) (a10 : List V) (a11 : Int) (a12 : List V) (a13 : Bool) (a14 : Int) (a15 : Int) : GO 52 Tryd.f52 (A52 a0 a1 a2 a3 a4 a5 a6 a7 a8 a9 a10 a11 a12 a13 a14 a15) [] call icall again = T52 call a0 a1 a2 a3 a4 a5 a6 a7 a8 a9 a10 a11 a12 a13 a14 a15 := by kernel_rfl
theorem C52 (k : Nat) (a0 : List V) (a1 : Int) (a2 : Int) (a3 : Int) (a4 : Int) (a5 : Int) (a6 : List V) (a7 : List V) (a8 : Int) (a9 : Int) (a10 : List V) (a11 : Int) (a12 : List V) (a13 : Bool) (a14 : Int) (a15 : Int) : callN cfg (k + 1) 52 (A52 a0 a1 a2 a3 a4 a5 a6 a7 a8 a9 a10 a11 a12 a13 a14 a15) [] = T52 (callN cfg k) a0 a1 a2 a3 a4 a5 a6 a7 a8 a9 a10 a11 a12 a13 a14 a15 :=
 (show callN cfg (k + 1) 52 (A52 a0 a1 a2 a3 a4 a5 a6 a7 a8 a9 a10 a11 a12 a13 a14 a15) [] = GO 52 Tryd.f52 (A52 a0 a1 a2 a3 a4 a5 a6 a7 a8 a9 a10 a11 a12 a13 a14 a15) [] (callN cfg k) (icallN cfg (callN cfg k) 20) (RN 52 Tryd.f52 [] (callN cfg k) (icallN cfg (callN cfg k) 20) k) by kernel_rfl).trans (E52 _ _ _ a0 a1 a2 a3 a4 a5 a6 a7 a8 a9 a10 a11 a12 a13 a14 a15)
theorem M52 (a0 : List V) (a1 : Int) (a2 : Int) (a3 : Int) (a4 : Int) (a5 : Int) (a6 : List V) (a7 : List V) (a8 : Int) (a9 : Int) (a10 : List V) (a11 : Int) (a12 : List V) (a13 : Bool) (a14 : Int) (a15 : Int) {r : V × List Ob} (h : Evt (fun k n => T52 (callN cfg k) a0 a1 a2 a3 a4 a5 a6 a7 a8 a9 a10 a11 a12 a13 a14 a15) r) : Ret 52 [V.lst 5 false a0, V.agg [V.int IntKind.i64 a1, V.int IntKind.i64 a2, V.int IntKind.i64 a3, V.int IntKind.i64 a4, V.int IntKind.i64 a5, V.lst 28 false a6, V.lst 24 false a7, V.int IntKind.i64 a8, V.int IntKind.i64 a9], V.agg [V.lst 3 false a10, V.int IntKind.i64 a11, V.lst 9 false a12, V.bool a13, V.int IntKind.i64 a14, V.int IntKind.i64 a15]] [] r := ret_mk (g := fun k n => T52 (callN cfg k) a0 a1 a2 a3 a4 a5 a6 a7 a8 a9 a10 a11 a12 a13 a14 a15) (fun k => C52 k a0 a1 a2 a3 a4 a5 a6 a7 a8 a9 a10 a11 a12 a13 a14 a15) h
def T37 (call : FuncId → Fun) (a0 : List V) (a1 : Int) (a2 : Int) (a3 : Int) (a4 : Int) (a5 : Int) (a6 : List V) (a7 : List V) (a8 : Int) (a9 : Int) (a10 : List V) (a11 : Int) (a12 : List V) (a13 : Bool) (a14 : Int) (a15 : Int) : Option (V × List Ob) :=
 Option.bind (call 51 [(V.agg [(V.lst 3 false a10), (V.int .i64 a11), (V.lst 9 false a12), (V.bool a13), (V.int .i64 a14), (V.int .i64 a15)])] []) fun z0 =>
 if ((getI z0.1) != (0 : Int)) = true then
 some ((V.lst 5 false []), [])
 else
 if (((length a10 : Nat) : Int) == (0 : Int)) = true then
 Option.bind (call 52 [(V.lst 5 false a0), (V.agg [(V.int .i64 a1), (V.int .i64 a2), (V.int .i64 a3), (V.int .i64 a4), (V.int .i64 a5), (V.lst 28 false a6), (V.lst 24 false a7), (V.int .i64 a8), (V.int .i64 a9)]), (V.agg [(V.lst 3 false a10), (V.int .i64 a11), (V.lst 9 false a12), (V.bool a13), (V.int .i64 a14), (V.int .i64 a15)])] []) fun z1 =>
 some ((V.lst 5 false (getL z1.1)), [])
 else
 Option.bind (call 36 [(V.agg [(V.int .i64 a1), (V.int .i64 a2), (V.int .i64 a3), (V.int .i64 a4), (V.int .i64 a5), (V.lst 28 false a6), (V.lst 24 false a7), (V.int .i64 a8), (V.int .i64 a9)]), (V.lst 3 false a10)] []) fun z1 =>
 if (!(getB (headD (tail (getT z1.1)) V.bot))) = true then
 some ((V.lst 5 false []), [])
 else
 if (a11 == (0 : Int)) = true then
 Option.bind (call 53 [(V.lst 5 false a0), (V.agg [(V.int .i64 (getI (headD (tail (tail (tail (V.cells (headD (getT z1.1) V.bot))))) V.bot))), (V.int .i64 (getI (headD (tail (tail (tail (tail (V.cells (headD (getT z1.1) V.bot)))))) V.bot)))])] []) fun z2 =>
 some ((V.lst 5 false (getL z2.1)), [])
 else
 if (a11 == (5 : Int)) = true then
 Option.bind (call 53 [(V.lst 5 false a0), (V.agg [(V.int .i64 (getI (headD (tail (V.cells (headD (getT z1.1) V.bot))) V.bot))), (V.int .i64 (getI (headD (tail (tail (V.cells (headD (getT z1.1) V.bot)))) V.bot)))])] []) fun z2 =>
 some ((V.lst 5 false (getL z2.1)), [])
 else
 Option.bind (if ((getI (headD (V.cells (headD (getT z1.1) V.bot)) V.bot)) == (2 : Int)) = true then
 some (decide (((length (getL (headD (tail (tail (tail (tail (tail (V.cells (headD (getT z1.1) V.bot))))))) V.bot)) : Nat) : Int) > (0 : Int)))
 else
 some false) fun y2 =>
 if y2 = true then
 chk (decide (0 ≤ (0 : Int))) (chk (decide ((0 : Int) < ((length (getL (headD (tail (tail (tail (tail (tail (V.cells (headD (getT z1.1) V.bot))))))) V.bot)) : Nat) : Int))) (Option.bind (call 52 [(V.lst 5 false a0), (V.agg [(V.int .i64 (getI (headD (V.cells (getD (getL (headD (tail (tail (tail (tail (tail (V.cells (headD (getT z1.1) V.bot))))))) V.bot)) (Int.toNat (0 : Int)) V.bot)) V.bot))), (V.int .i64 (getI (headD (tail (V.cells (getD (getL (headD (tail (tail (tail (tail (tail (V.cells (headD (getT z1.1) V.bot))))))) V.bot)) (Int.toNat (0 : Int)) V.bot))) V.bot))), (V.int .i64 (getI (headD (tail (tail (V.cells (getD (getL (headD (tail (tail (tail (tail (tail (V.cells (headD (getT z1.1) V.bot))))))) V.bot)) (Int.toNat (0 : Int)) V.bot)))) V.bot))), (V.int .i64 (getI (headD (tail (tail (tail (V.cells (getD (getL (headD (tail (tail (tail (tail (tail (V.cells (headD (getT z1.1) V.bot))))))) V.bot)) (Int.toNat (0 : Int)) V.bot))))) V.bot))), (V.int .i64 (getI (headD (tail (tail (tail (tail (V.cells (getD (getL (headD (tail (tail (tail (tail (tail (V.cells (headD (getT z1.1) V.bot))))))) V.bot)) (Int.toNat (0 : Int)) V.bot)))))) V.bot))), (V.lst 28 false (getL (headD (tail (tail (tail (tail (tail (V.cells (getD (getL (headD (tail (tail (tail (tail (tail (V.cells (headD (getT z1.1) V.bot))))))) V.bot)) (Int.toNat (0 : Int)) V.bot))))))) V.bot))), (V.lst 24 false (getL (headD (tail (tail (tail (tail (tail (tail (V.cells (getD (getL (headD (tail (tail (tail (tail (tail (V.cells (headD (getT z1.1) V.bot))))))) V.bot)) (Int.toNat (0 : Int)) V.bot)))))))) V.bot))), (V.int .i64 (getI (headD (tail (tail (tail (tail (tail (tail (tail (V.cells (getD (getL (headD (tail (tail (tail (tail (tail (V.cells (headD (getT z1.1) V.bot))))))) V.bot)) (Int.toNat (0 : Int)) V.bot))))))))) V.bot))), (V.int .i64 (getI (headD (tail (tail (tail (tail (tail (tail (tail (tail (V.cells (getD (getL (headD (tail (tail (tail (tail (tail (V.cells (headD (getT z1.1) V.bot))))))) V.bot)) (Int.toNat (0 : Int)) V.bot)))))))))) V.bot)))]), (V.agg [(V.lst 3 false a10), (V.int .i64 a11), (V.lst 9 false a12), (V.bool a13), (V.int .i64 a14), (V.int .i64 a15)])] []) fun z3 =>
 some ((V.lst 5 false (getL z3.1)), [])))
 else
 some ((V.lst 5 false []), [])
def A37 (a0 : List V) (a1 : Int) (a2 : Int) (a3 : Int) (a4 : Int) (a5 : Int) (a6 : List V) (a7 : List V) (a8 : Int) (a9 : Int) (a10 : List V) (a11 : Int) (a12 : List V) (a13 : Bool) (a14 : Int) (a15 : Int) : List V := [V.lst 5 false a0, V.agg [V.int IntKind.i64 a1, V.int IntKind.i64 a2, V.int IntKind.i64 a3, V.int IntKind.i64 a4, V.int IntKind.i64 a5, V.lst 28 false a6, V.lst 24 false a7, V.int IntKind.i64 a8, V.int IntKind.i64 a9], V.agg [V.lst 3 false a10, V.int IntKind.i64 a11, V.lst 9 false a12, V.bool a13, V.int IntKind.i64 a14, V.int IntKind.i64 a15]]
theorem E37 (a0 : List V) (a1 : Int) (a2 : Int) (a3 : Int) (a4 : Int) (a5 : Int) (a6 : List V) (a7 : List V) (a8 : Int) (a9 : Int) (a10 : List V) (a11 : Int) (a12 : List V) (a13 : Bool) (a14 : Int) (a15 : Int) : GO 37 Tryd.f37 (A37 a0 a1 a2 a3 a4 a5 a6 a7 a8 a9 a10 a11 a12 a13 a14 a15) [] call icall again = T37 call a0 a1 a2 a3 a4 a5 a6 a7 a8 a9 a10 a11 a12 a13 a14 a15 := by kernel_rfl
theorem C37 (k : Nat) (a0 : List V) (a1 : Int) (a2 : Int) (a3 : Int) (a4 : Int) (a5 : Int) (a6 : List V) (a7 : List V) (a8 : Int) (a9 : Int) (a10 : List V) (a11 : Int) (a12 : List V) (a13 : Bool) (a14 : Int) (a15 : Int) : callN cfg (k + 1) 37 (A37 a0 a1 a2 a3 a4 a5 a6 a7 a8 a9 a10 a11 a12 a13 a14 a15) [] = T37 (callN cfg k) a0 a1 a2 a3 a4 a5 a6 a7 a8 a9 a10 a11 a12 a13 a14 a15 :=
 (show callN cfg (k + 1) 37 (A37 a0 a1 a2 a3 a4 a5 a6 a7 a8 a9 a10 a11 a12 a13 a14 a15) [] = GO 37 Tryd.f37 (A37 a0 a1 a2 a3 a4 a5 a6 a7 a8 a9 a10 a11 a12 a13 a14 a15) [] (callN cfg k) (icallN cfg (callN cfg k) 20) (RN 37 Tryd.f37 [] (callN cfg k) (icallN cfg (callN cfg k) 20) k) by kernel_rfl).trans (E37 _ _ _ a0 a1 a2 a3 a4 a5 a6 a7 a8 a9 a10 a11 a12 a13 a14 a15)
theorem M37 (a0 : List V) (a1 : Int) (a2 : Int) (a3 : Int) (a4 : Int) (a5 : Int) (a6 : List V) (a7 : List V) (a8 : Int) (a9 : Int) (a10 : List V) (a11 : Int) (a12 : List V) (a13 : Bool) (a14 : Int) (a15 : Int) {r : V × List Ob} (h : Evt (fun k n => T37 (callN cfg k) a0 a1 a2 a3 a4 a5 a6 a7 a8 a9 a10 a11 a12 a13 a14 a15) r) : Ret 37 [V.lst 5 false a0, V.agg [V.int IntKind.i64 a1, V.int IntKind.i64 a2, V.int IntKind.i64 a3, V.int IntKind.i64 a4, V.int IntKind.i64 a5, V.lst 28 false a6, V.lst 24 false a7, V.int IntKind.i64 a8, V.int IntKind.i64 a9], V.agg [V.lst 3 false a10, V.int IntKind.i64 a11, V.lst 9 false a12, V.bool a13, V.int IntKind.i64 a14, V.int IntKind.i64 a15]] [] r := ret_mk (g := fun k n => T37 (callN cfg k) a0 a1 a2 a3 a4 a5 a6 a7 a8 a9 a10 a11 a12 a13 a14 a15) (fun k => C37 k a0 a1 a2 a3 a4 a5 a6 a7 a8 a9 a10 a11 a12 a13 a14 a15) h
def T28 (call : FuncId → Fun) (a0 : List V) (a1 : Int) (a2 : Int) (a3 : Int) (a4 : Int) (a5 : Int) (a6 : List V) (a7 : List V) (a8 : Int) (a9 : Int) (a10 : List V) (a11 : Int) (a12 : List V) (a13 : Bool) (a14 : Int) (a15 : Int) : Option (V × List Ob) :=
 Option.bind (call 37 [(V.lst 5 false a0), (V.agg [(V.int .i64 a1), (V.int .i64 a2), (V.int .i64 a3), (V.int .i64 a4), (V.int .i64 a5), (V.lst 28 false a6), (V.lst 24 false a7), (V.int .i64 a8), (V.int .i64 a9)]), (V.agg [(V.lst 3 false a10), (V.int .i64 a11), (V.lst 9 false a12), (V.bool a13), (V.int .i64 a14), (V.int .i64 a15)])] []) fun z0 =>
 if a13 = true then
 Option.bind (call 38 [(V.lst 5 false (getL z0.1)), (V.int .i64 a14), (V.int .i64 a15)] []) fun z1 =>
 some ((V.lst 5 false (getL z1.1)), [])
 else
 some ((V.lst 5 false (getL z0.1)), [])
def A28 (a0 : List V) (a1 : Int) (a2 : Int) (a3 : Int) (a4 : Int) (a5 : Int) (a6 : List V) (a7 : List V) (a8 : Int) (a9 : Int) (a10 : List V) (a11 : Int) (a12 : List V) (a13 : Bool) (a14 : Int) (a15 : Int) : List V := [V.lst 5 false a0, V.agg [V.int IntKind.i64 a1, V.int IntKind.i64 a2, V.int IntKind.i64 a3, V.int IntKind.i64 a4, V.int IntKind.i64 a5, V.lst 28 false a6, V.lst 24 false a7, V.int IntKind.i64 a8, V.int IntKind.i64 a9], V.agg [V.lst 3 false a10, V.int IntKind.i64 a11, V.lst 9 false a12, V.bool a13, V.int IntKind.i64 a14, V.int IntKind.i64 a15]]
theorem E28 (a0 : List V) (a1 : Int) (a2 : Int) (a3 : Int) (a4 : Int) (a5 : Int) (a6 : List V) (a7 : List V) (a8 : Int) (a9 : Int) (a10 : List V) (a11 : Int) (a12 : List V) (a13 : Bool) (a14 : Int) (a15 : Int) : GO 28 Tryd.f28 (A28 a0 a1 a2 a3 a4 a5 a6 a7 a8 a9 a10 a11 a12 a13 a14 a15) [] call icall again = T28 call a0 a1 a2 a3 a4 a5 a6 a7 a8 a9 a10 a11 a12 a13 a14 a15 := by kernel_rfl
theorem C28 (k : Nat) (a0 : List V) (a1 : Int) (a2 : Int) (a3 : Int) (a4 : Int) (a5 : Int) (a6 : List V) (a7 : List V) (a8 : Int) (a9 : Int) (a10 : List V) (a11 : Int) (a12 : List V) (a13 : Bool) (a14 : Int) (a15 : Int) : callN cfg (k + 1) 28 (A28 a0 a1 a2 a3 a4 a5 a6 a7 a8 a9 a10 a11 a12 a13 a14 a15) [] = T28 (callN cfg k) a0 a1 a2 a3 a4 a5 a6 a7 a8 a9 a10 a11 a12 a13 a14 a15 :=
 (show callN cfg (k + 1) 28 (A28 a0 a1 a2 a3 a4 a5 a6 a7 a8 a9 a10 a11 a12 a13 a14 a15) [] = GO 28 Tryd.f28 (A28 a0 a1 a2 a3 a4 a5 a6 a7 a8 a9 a10 a11 a12 a13 a14 a15) [] (callN cfg k) (icallN cfg (callN cfg k) 20) (RN 28 Tryd.f28 [] (callN cfg k) (icallN cfg (callN cfg k) 20) k) by kernel_rfl).trans (E28 _ _ _ a0 a1 a2 a3 a4 a5 a6 a7 a8 a9 a10 a11 a12 a13 a14 a15)
theorem M28 (a0 : List V) (a1 : Int) (a2 : Int) (a3 : Int) (a4 : Int) (a5 : Int) (a6 : List V) (a7 : List V) (a8 : Int) (a9 : Int) (a10 : List V) (a11 : Int) (a12 : List V) (a13 : Bool) (a14 : Int) (a15 : Int) {r : V × List Ob} (h : Evt (fun k n => T28 (callN cfg k) a0 a1 a2 a3 a4 a5 a6 a7 a8 a9 a10 a11 a12 a13 a14 a15) r) : Ret 28 [V.lst 5 false a0, V.agg [V.int IntKind.i64 a1, V.int IntKind.i64 a2, V.int IntKind.i64 a3, V.int IntKind.i64 a4, V.int IntKind.i64 a5, V.lst 28 false a6, V.lst 24 false a7, V.int IntKind.i64 a8, V.int IntKind.i64 a9], V.agg [V.lst 3 false a10, V.int IntKind.i64 a11, V.lst 9 false a12, V.bool a13, V.int IntKind.i64 a14, V.int IntKind.i64 a15]] [] r := ret_mk (g := fun k n => T28 (callN cfg k) a0 a1 a2 a3 a4 a5 a6 a7 a8 a9 a10 a11 a12 a13 a14 a15) (fun k => C28 k a0 a1 a2 a3 a4 a5 a6 a7 a8 a9 a10 a11 a12 a13 a14 a15) h
def T38 (call : FuncId → Fun) (a0 : List V) (a1 : Int) (a2 : Int) : Option (V × List Ob) :=
 Option.bind (if (decide (a1 < (0 : Int))) = false then
 if (decide (a1 > ((length a0 : Nat) : Int))) = false then
 some (decide (a2 < (1 : Int)))
 else
 some true
 else
 some true) fun y0 =>
 if y0 = true then
 some ((V.lst 5 false []), [])
 else
 chk (decide (0 ≤ (IntKind.wrap .i64 (a1 + (if (IntKind.wrap .i64 (((length a0 : Nat) : Int) - a1)) < a2 then (IntKind.wrap .i64 (((length a0 : Nat) : Int) - a1)) else a2))))) (chk (decide ((IntKind.wrap .i64 (a1 + (if (IntKind.wrap .i64 (((length a0 : Nat) : Int) - a1)) < a2 then (IntKind.wrap .i64 (((length a0 : Nat) : Int) - a1)) else a2))) ≤ ((length a0 : Nat) : Int))) (chk (decide (0 ≤ a1)) (chk (decide (a1 ≤ (IntKind.wrap .i64 (a1 + (if (IntKind.wrap .i64 (((length a0 : Nat) : Int) - a1)) < a2 then (IntKind.wrap .i64 (((length a0 : Nat) : Int) - a1)) else a2))))) (Option.bind (call 54 [(V.lst 5 false (drop (Int.toNat a1) (take (Int.toNat (IntKind.wrap .i64 (a1 + (if (IntKind.wrap .i64 (((length a0 : Nat) : Int) - a1)) < a2 then (IntKind.wrap .i64 (((length a0 : Nat) : Int) - a1)) else a2)))) a0)))] []) fun z1 =>
 some ((V.lst 5 false (getL z1.1)), [])))))
def A38 (a0 : List V) (a1 : Int) (a2 : Int) : List V := [V.lst 5 false a0, V.int IntKind.i64 a1, V.int IntKind.i64 a2]
theorem E38 (a0 : List V) (a1 : Int) (a2 : Int) : GO 38 Tryd.f38 (A38 a0 a1 a2) [] call icall again = T38 call a0 a1 a2 := by kernel_rfl
theorem C38 (k : Nat) (a0 : List V) (a1 : Int) (a2 : Int) : callN cfg (k + 1) 38 (A38 a0 a1 a2) [] = T38 (callN cfg k) a0 a1 a2 :=
 (show callN cfg (k + 1) 38 (A38 a0 a1 a2) [] = GO 38 Tryd.f38 (A38 a0 a1 a2) [] (callN cfg k) (icallN cfg (callN cfg k) 20) (RN 38 Tryd.f38 [] (callN cfg k) (icallN cfg (callN cfg k) 20) k) by kernel_rfl).trans (E38 _ _ _ a0 a1 a2)
theorem M38 (a0 : List V) (a1 : Int) (a2 : Int) {r : V × List Ob} (h : Evt (fun k n => T38 (callN cfg k) a0 a1 a2) r) : Ret 38 [V.lst 5 false a0, V.int IntKind.i64 a1, V.int IntKind.i64 a2] [] r := ret_mk (g := fun k n => T38 (callN cfg k) a0 a1 a2) (fun k => C38 k a0 a1 a2) h
def T69 (call : FuncId → Fun) (a0 : Int) (a1 : Int) : Option (V × List Ob) :=
 Option.bind (if (decide (a0 ≥ a1)) = true then
 some (decide (a0 ≤ (4294967295 : Int)))
 else
 some false) fun y0 =>
 some ((V.bool y0), [])
def A69 (a0 : Int) (a1 : Int) : List V := [V.int IntKind.i64 a0, V.int IntKind.i64 a1]
theorem E69 (a0 : Int) (a1 : Int) : GO 69 Tryd.f69 (A69 a0 a1) [] call icall again = T69 call a0 a1 := by kernel_rfl
theorem C69 (k : Nat) (a0 : Int) (a1 : Int) : callN cfg (k + 1) 69 (A69 a0 a1) [] = T69 (callN cfg k) a0 a1 :=
 (show callN cfg (k + 1) 69 (A69 a0 a1) [] = GO 69 Tryd.f69 (A69 a0 a1) [] (callN cfg k) (icallN cfg (callN cfg k) 20) (RN 69 Tryd.f69 [] (callN cfg k) (icallN cfg (callN cfg k) 20) k) by kernel_rfl).trans (E69 _ _ _ a0 a1)
theorem M69 (a0 : Int) (a1 : Int) {r : V × List Ob} (h : Evt (fun k n => T69 (callN cfg k) a0 a1) r) : Ret 69 [V.int IntKind.i64 a0, V.int IntKind.i64 a1] [] r := ret_mk (g := fun k n => T69 (callN cfg k) a0 a1) (fun k => C69 k a0 a1) h
def T70_0 (call : FuncId → Fun) (ag0 : List UInt8 → Int → Int → Option (V × List Ob)) (s0 : List UInt8) (i1 : Int) (i2 : Int) : Option (V × List Ob) :=
 if (decide (i2 < i1)) = true then
 Option.bind (chk (decide (0 ≤ i2)) (chk (decide (i2 < ((length s0 : Nat) : Int))) (if (decide (((UInt8.toNat (getD s0 (Int.toNat i2) 0) : Nat) : Int) < (32 : Int))) = false then
 chk (decide (0 ≤ i2)) (chk (decide (i2 < ((length s0 : Nat) : Int))) (some (decide (((UInt8.toNat (getD s0 (Int.toNat i2) 0) : Nat) : Int) ≥ (127 : Int)))))
 else
 some true))) fun y0 =>
 if y0 = true then
 some ((V.bool false), [])
 else
 (ag0 (s0) (i1) ((IntKind.wrap .i64 (i2 + (1 : Int)))))
 else
 some ((V.bool true), [])
def T70 (call : FuncId → Fun) (ag0 : List UInt8 → Int → Int → Option (V × List Ob)) (a0 : List UInt8) : Option (V × List Ob) :=
 (ag0 (a0) (((length a0 : Nat) : Int)) ((0 : Int)))
def A70 (a0 : List UInt8) : List V := [V.str a0]
def K70_0 (s0 : List UInt8) (i1 : Int) (i2 : Int) : St := ⟨[(V.str s0), V.bot, V.bot, V.bot, V.bot, (V.int IntKind.i64 i1), (V.int IntKind.i64 i2)] ++ List.replicate 13 V.bot, []⟩
theorem S70_0 (s0 : List UInt8) (i1 : Int) (i2 : Int) :
 RM 70 Tryd.f70 [] call icall again (tdOf Tryd.f70 0) (K70_0 s0 i1 i2) = T70_0 call (fun s0 i1 i2 => again (tdOf Tryd.f70 0) (K70_0 s0 i1 i2)) s0 i1 i2 := by kernel_rfl
theorem E70 (a0 : List UInt8) : GO 70 Tryd.f70 (A70 a0) [] call icall again = T70 call (fun s0 i1 i2 => again (tdOf Tryd.f70 0) (K70_0 s0 i1 i2)) a0 := by kernel_rfl
def L70 (call : FuncId → Fun) : Nat → (List UInt8 → Int → Int → Option (V × List Ob))
 | 0 => fun _ _ _ => none
 | n + 1 => T70_0 call (L70 call n)
theorem R70 (call : FuncId → Fun) (icall : ICall (V × List Ob)) : ∀ n, (∀ (s0 : List UInt8) (i1 : Int) (i2 : Int), RN 70 Tryd.f70 [] call icall n (tdOf Tryd.f70 0) (K70_0 s0 i1 i2) = (L70 call n) s0 i1 i2)
  | 0 => fun s0 i1 i2 => rfl
  | n + 1 => by
    have ih := R70 call icall n
    exact fun s0 i1 i2 => (S70_0 call icall (RN 70 Tryd.f70 [] call icall n) s0 i1 i2).trans (by rw [show (fun s0 i1 i2 => RN 70 Tryd.f70 [] call icall n (tdOf Tryd.f70 0) (K70_0 s0 i1 i2)) = (L70 call n) from (funext fun s0 => funext fun i1 => funext fun i2 => ih s0 i1 i2)]; rfl)
theorem C70 (k : Nat) (a0 : List UInt8) : callN cfg (k + 1) 70 (A70 a0) [] = T70 (callN cfg k) (L70 (callN cfg k) k) a0 := by
 have ih := R70 (callN cfg k) (icallN cfg (callN cfg k) 20) k
 refine (show callN cfg (k + 1) 70 (A70 a0) [] = GO 70 Tryd.f70 (A70 a0) [] (callN cfg k) (icallN cfg (callN cfg k) 20) (RN 70 Tryd.f70 [] (callN cfg k) (icallN cfg (callN cfg k) 20) k) by kernel_rfl).trans ((E70 _ _ _ a0).trans ?_)
 rw [show (fun s0 i1 i2 => RN 70 Tryd.f70 [] (callN cfg k) (icallN cfg (callN cfg k) 20) k (tdOf Tryd.f70 0) (K70_0 s0 i1 i2)) = (L70 (callN cfg k) k) from (funext fun s0 => funext fun i1 => funext fun i2 => ih s0 i1 i2)]
theorem M70 (a0 : List UInt8) {r : V × List Ob} (h : Evt (fun k n => T70 (callN cfg k) (L70 (callN cfg k) n) a0) r) : Ret 70 [V.str a0] [] r := ret_mk (g := fun k n => T70 (callN cfg k) (L70 (callN cfg k) n) a0) (fun k => C70 k a0) h
theorem N70_0 (s0 : List UInt8) (i1 : Int) (i2 : Int) {r : V × List Ob} (h : Evt (fun k n => T70_0 (callN cfg k) (L70 (callN cfg k) n) s0 i1 i2) r) : Evt (fun k n => (L70 (callN cfg k) n) s0 i1 i2) r := evt_step (fun k n => rfl) h
def T71 (call : FuncId → Fun) (a0 : List V) (a1 : Int) (a2 : List V) (a3 : Bool) (a4 : Int) (a5 : Int) : Option (V × List Ob) :=
 Option.bind (if (a1 == (2 : Int)) = false then
 some (a1 == (3 : Int))
 else
 some true) fun y0 =>
 some ((V.bool y0), [])
def A71 (a0 : List V) (a1 : Int) (a2 : List V) (a3 : Bool) (a4 : Int) (a5 : Int) : List V := [V.agg [V.lst 3 false a0, V.int IntKind.i64 a1, V.lst 9 false a2, V.bool a3, V.int IntKind.i64 a4, V.int IntKind.i64 a5]]
theorem E71 (a0 : List V) (a1 : Int) (a2 : List V) (a3 : Bool) (a4 : Int) (a5 : Int) : GO 71 Tryd.f71 (A71 a0 a1 a2 a3 a4 a5) [] call icall again = T71 call a0 a1 a2 a3 a4 a5 := by kernel_rfl
theorem C71 (k : Nat) (a0 : List V) (a1 : Int) (a2 : List V) (a3 : Bool) (a4 : Int) (a5 : Int) : callN cfg (k + 1) 71 (A71 a0 a1 a2 a3 a4 a5) [] = T71 (callN cfg k) a0 a1 a2 a3 a4 a5 :=
 (show callN cfg (k + 1) 71 (A71 a0 a1 a2 a3 a4 a5) [] = GO 71 Tryd.f71 (A71 a0 a1 a2 a3 a4 a5) [] (callN cfg k) (icallN cfg (callN cfg k) 20) (RN 71 Tryd.f71 [] (callN cfg k) (icallN cfg (callN cfg k) 20) k) by kernel_rfl).trans (E71 _ _ _ a0 a1 a2 a3 a4 a5)
theorem M71 (a0 : List V) (a1 : Int) (a2 : List V) (a3 : Bool) (a4 : Int) (a5 : Int) {r : V × List Ob} (h : Evt (fun k n => T71 (callN cfg k) a0 a1 a2 a3 a4 a5) r) : Ret 71 [V.agg [V.lst 3 false a0, V.int IntKind.i64 a1, V.lst 9 false a2, V.bool a3, V.int IntKind.i64 a4, V.int IntKind.i64 a5]] [] r := ret_mk (g := fun k n => T71 (callN cfg k) a0 a1 a2 a3 a4 a5) (fun k => C71 k a0 a1 a2 a3 a4 a5) h
def T30 (call : FuncId → Fun) (a0 : List V) (a1 : Int) (a2 : Int) (a3 : Int) (a4 : Int) (a5 : Int) (a6 : List V) (a7 : List V) (a8 : Int) (a9 : Int) (a10 : List V) (a11 : Int) (a12 : List V) (a13 : Bool) (a14 : Int) (a15 : Int) : Option (V × List Ob) :=
 Option.bind (call 37 [(V.lst 5 false a0), (V.agg [(V.int .i64 a1), (V.int .i64 a2), (V.int .i64 a3), (V.int .i64 a4), (V.int .i64 a5), (V.lst 28 false a6), (V.lst 24 false a7), (V.int .i64 a8), (V.int .i64 a9)]), (V.agg [(V.lst 3 false a10), (V.int .i64 a11), (V.lst 9 false a12), (V.bool a13), (V.int .i64 a14), (V.int .i64 a15)])] []) fun z0 =>
 some ((V.int .i64 ((length (getL z0.1) : Nat) : Int)), [])
def A30 (a0 : List V) (a1 : Int) (a2 : Int) (a3 : Int) (a4 : Int) (a5 : Int) (a6 : List V) (a7 : List V) (a8 : Int) (a9 : Int) (a10 : List V) (a11 : Int) (a12 : List V) (a13 : Bool) (a14 : Int) (a15 : Int) : List V := [V.lst 5 false a0, V.agg [V.int IntKind.i64 a1, V.int IntKind.i64 a2, V.int IntKind.i64 a3, V.int IntKind.i64 a4, V.int IntKind.i64 a5, V.lst 28 false a6, V.lst 24 false a7, V.int IntKind.i64 a8, V.int IntKind.i64 a9], V.agg [V.lst 3 false a10, V.int IntKind.i64 a11, V.lst 9 false a12, V.bool a13, V.int IntKind.i64 a14, V.int IntKind.i64 a15]]
theorem E30 (a0 : List V) (a1 : Int) (a2 : Int) (a3 : Int) (a4 : Int) (a5 : Int) (a6 : List V) (a7 : List V) (a8 : Int) (a9 : Int) (a10 : List V) (a11 : Int) (a12 : List V) (a13 : Bool) (a14 : Int) (a15 : Int) : GO 30 Tryd.f30 (A30 a0 a1 a2 a3 a4 a5 a6 a7 a8 a9 a10 a11 a12 a13 a14 a15) [] call icall again = T30 call a0 a1 a2 a3 a4 a5 a6 a7 a8 a9 a10 a11 a12 a13 a14 a15 := by kernel_rfl
theorem C30 (k : Nat) (a0 : List V) (a1 : Int) (a2 : Int) (a3 : Int) (a4 : Int) (a5 : Int) (a6 : List V) (a7 : List V) (a8 : Int) (a9 : Int) (a10 : List V) (a11 : Int) (a12 : List V) (a13 : Bool) (a14 : Int) (a15 : Int) : callN cfg (k + 1) 30 (A30 a0 a1 a2 a3 a4 a5 a6 a7 a8 a9 a10 a11 a12 a13 a14 a15) [] = T30 (callN cfg k) a0 a1 a2 a3 a4 a5 a6 a7 a8 a9 a10 a11 a12 a13 a14 a15 :=
 (show callN cfg (k + 1) 30 (A30 a0 a1 a2 a3 a4 a5 a6 a7 a8 a9 a10 a11 a12 a13 a14 a15) [] = GO 30 Tryd.f30 (A30 a0 a1 a2 a3 a4 a5 a6 a7 a8 a9 a10 a11 a12 a13 a14 a15) [] (callN cfg k) (icallN cfg (callN cfg k) 20) (RN 30 Tryd.f30 [] (callN cfg k) (icallN cfg (callN cfg k) 20) k) by kernel_rfl).trans (E30 _ _ _ a0 a1 a2 a3 a4 a5 a6 a7 a8 a9 a10 a11 a12 a13 a14 a15)
theorem M30 (a0 : List V) (a1 : Int) (a2 : Int) (a3 : Int) (a4 : Int) (a5 : Int) (a6 : List V) (a7 : List V) (a8 : Int) (a9 : Int) (a10 : List V) (a11 : Int) (a12 : List V) (a13 : Bool) (a14 : Int) (a15 : Int) {r : V × List Ob} (h : Evt (fun k n => T30 (callN cfg k) a0 a1 a2 a3 a4 a5 a6 a7 a8 a9 a10 a11 a12 a13 a14 a15) r) : Ret 30 [V.lst 5 false a0, V.agg [V.int IntKind.i64 a1, V.int IntKind.i64 a2, V.int IntKind.i64 a3, V.int IntKind.i64 a4, V.int IntKind.i64 a5, V.lst 28 false a6, V.lst 24 false a7, V.int IntKind.i64 a8, V.int IntKind.i64 a9], V.agg [V.lst 3 false a10, V.int IntKind.i64 a11, V.lst 9 false a12, V.bool a13, V.int IntKind.i64 a14, V.int IntKind.i64 a15]] [] r := ret_mk (g := fun k n => T30 (callN cfg k) a0 a1 a2 a3 a4 a5 a6 a7 a8 a9 a10 a11 a12 a13 a14 a15) (fun k => C30 k a0 a1 a2 a3 a4 a5 a6 a7 a8 a9 a10 a11 a12 a13 a14 a15) h
def T72_0 (call : FuncId → Fun) (ag0 : List V → List V → Bool → List V → List V → Int → Int → Option (V × List Ob)) (l0 : List V) (l1 : List V) (b2 : Bool) (l3 : List V) (l4 : List V) (i5 : Int) (i6 : Int) : Option (V × List Ob) :=
 if (decide (i6 < i5)) = true then
 chk (decide (0 ≤ i6)) (chk (decide (i6 < ((length l4 : Nat) : Int))) (Option.bind (call 93 [(V.lst 9 false l1), (V.clo (Fn.func 94) [] [(V.ref 0 0)])] [(Ob.cells [(V.str (getS (headD (V.cells (getD l4 (Int.toNat i6) V.bot)) V.bot))), (V.int .i64 (getI (headD (tail (V.cells (getD l4 (Int.toNat i6) V.bot))) V.bot))), (V.int .i64 (getI (headD (tail (tail (V.cells (getD l4 (Int.toNat i6) V.bot)))) V.bot))), (V.int .i64 (getI (headD (tail (tail (tail (V.cells (getD l4 (Int.toNat i6) V.bot))))) V.bot)))])]) fun z0 =>
 if ((getB z0.1) == b2) = false then
 Option.bind (call 73 [(V.agg [(V.int .i64 (getI (headD (tail (Ob.getC (headD z0.2 Ob.dead))) V.bot))), (V.int .i64 (getI (headD (tail (tail (tail (Ob.getC (headD z0.2 Ob.dead))))) V.bot)))]), (V.int .i64 ((length l0 : Nat) : Int))] []) fun z1 =>
 if (!(getB z1.1)) = true then
 (ag0 (l0) (l1) (b2) (l3) (l4) (i5) ((IntKind.wrap .i64 (i6 + (1 : Int)))))
 else
 chk (decide (0 ≤ (getI (headD (tail (tail (tail (Ob.getC (headD z0.2 Ob.dead))))) V.bot)))) (chk (decide ((getI (headD (tail (tail (tail (Ob.getC (headD z0.2 Ob.dead))))) V.bot)) ≤ ((length l0 : Nat) : Int))) (chk (decide (0 ≤ (getI (headD (tail (Ob.getC (headD z0.2 Ob.dead))) V.bot)))) (chk (decide ((getI (headD (tail (Ob.getC (headD z0.2 Ob.dead))) V.bot)) ≤ (getI (headD (tail (tail (tail (Ob.getC (headD z0.2 Ob.dead))))) V.bot)))) (chk (appOk l3 (drop (Int.toNat (getI (headD (tail (Ob.getC (headD z0.2 Ob.dead))) V.bot))) (take (Int.toNat (getI (headD (tail (tail (tail (Ob.getC (headD z0.2 Ob.dead))))) V.bot))) l0)) 2) (Option.bind (if ((getI (headD (tail (tail (tail (Ob.getC (headD z0.2 Ob.dead))))) V.bot)) == (getI (headD (tail (Ob.getC (headD z0.2 Ob.dead))) V.bot))) = false then
 chk (decide (0 ≤ (IntKind.wrap .i64 ((getI (headD (tail (tail (tail (Ob.getC (headD z0.2 Ob.dead))))) V.bot)) - (1 : Int))))) (chk (decide ((IntKind.wrap .i64 ((getI (headD (tail (tail (tail (Ob.getC (headD z0.2 Ob.dead))))) V.bot)) - (1 : Int))) < ((length l0 : Nat) : Int))) (some ((getI (getD l0 (Int.toNat (IntKind.wrap .i64 ((getI (headD (tail (tail (tail (Ob.getC (headD z0.2 Ob.dead))))) V.bot)) - (1 : Int)))) V.bot)) != (10 : Int))))
 else
 some true) fun y2 =>
 if y2 = true then
 chk (appOkS (l3 ++ (drop (Int.toNat (getI (headD (tail (Ob.getC (headD z0.2 Ob.dead))) V.bot))) (take (Int.toNat (getI (headD (tail (tail (tail (Ob.getC (headD z0.2 Ob.dead))))) V.bot))) l0))) [13, 10] 2) ((ag0 (l0) (l1) (b2) (((l3 ++ (drop (Int.toNat (getI (headD (tail (Ob.getC (headD z0.2 Ob.dead))) V.bot))) (take (Int.toNat (getI (headD (tail (tail (tail (Ob.getC (headD z0.2 Ob.dead))))) V.bot))) l0))) ++ (ofBytes [13, 10]))) (l4) (i5) ((IntKind.wrap .i64 (i6 + (1 : Int))))))
 else
 (ag0 (l0) (l1) (b2) ((l3 ++ (drop (Int.toNat (getI (headD (tail (Ob.getC (headD z0.2 Ob.dead))) V.bot))) (take (Int.toNat (getI (headD (tail (tail (tail (Ob.getC (headD z0.2 Ob.dead))))) V.bot))) l0)))) (l4) (i5) ((IntKind.wrap .i64 (i6 + (1 : Int))))))))))
 else
 (ag0 (l0) (l1) (b2) (l3) (l4) (i5) ((IntKind.wrap .i64 (i6 + (1 : Int)))))))
 else
 chk (appOkS l3 [13, 10] 2) (some ((V.lst 5 false (l3 ++ (ofBytes [13, 10]))), []))
def T72 (call : FuncId → Fun) (ag0 : List V → List V → Bool → List V → List V → Int → Int → Option (V × List Ob)) (a0 : List V) (a1 : List V) (a2 : List V) (a3 : Bool) : Option (V × List Ob) :=
 (ag0 (a0) (a2) (a3) ([]) (a1) (((length a1 : Nat) : Int)) ((0 : Int)))
def A72 (a0 : List V) (a1 : List V) (a2 : List V) (a3 : Bool) : List V := [V.lst 5 false a0, V.lst 109 false a1, V.lst 9 false a2, V.bool a3]
def K72_0 (l0 : List V) (l1 : List V) (b2 : Bool) (l3 : List V) (l4 : List V) (i5 : Int) (i6 : Int) : St := ⟨[(V.lst 5 false l0), V.bot, (V.lst 9 false l1), (V.bool b2), V.bot, V.bot, V.bot, V.bot, V.bot, (V.lst 5 true l3), V.bot, V.bot, V.bot, (V.lst 109 false l4), (V.int IntKind.i64 i5), (V.int IntKind.i64 i6)] ++ List.replicate 47 V.bot, []⟩
theorem S72_0 (l0 : List V) (l1 : List V) (b2 : Bool) (l3 : List V) (l4 : List V) (i5 : Int) (i6 : Int) :
 RM 72 Tryd.f72 [] call icall again (tdOf Tryd.f72 0) (K72_0 l0 l1 b2 l3 l4 i5 i6) = T72_0 call (fun l0 l1 b2 l3 l4 i5 i6 => again (tdOf Tryd.f72 0) (K72_0 l0 l1 b2 l3 l4 i5 i6)) l0 l1 b2 l3 l4 i5 i6 := by kernel_rfl
theorem E72 (a0 : List V) (a1 : List V) (a2 : List V) (a3 : Bool) : GO 72 Tryd.f72 (A72 a0 a1 a2 a3) [] call icall again = T72 call (fun l0 l1 b2 l3 l4 i5 i6 => again (tdOf Tryd.f72 0) (K72_0 l0 l1 b2 l3 l4 i5 i6)) a0 a1 a2 a3 := by kernel_rfl
def L72 (call : FuncId → Fun) : Nat → (List V → List V → Bool → List V → List V → Int → Int → Option (V × List Ob))
 | 0 => fun _ _ _ _ _ _ _ => none
 | n + 1 => T72_0 call (L72 call n)
theorem R72 (call : FuncId → Fun) (icall : ICall (V × List Ob)) : ∀ n, (∀ (l0 : List V) (l1 : List V) (b2 : Bool) (l3 : List V) (l4 : List V) (i5 : Int) (i6 : Int), RN 72 Tryd.f72 [] call icall n (tdOf Tryd.f72 0) (K72_0 l0 l1 b2 l3 l4 i5 i6) = (L72 call n) l0 l1 b2 l3 l4 i5 i6)
  | 0 => fun l0 l1 b2 l3 l4 i5 i6 => rfl
  | n + 1 => by
    have ih := R72 call icall n
    exact fun l0 l1 b2 l3 l4 i5 i6 => (S72_0 call icall (RN 72 Tryd.f72 [] call icall n) l0 l1 b2 l3 l4 i5 i6).trans (by rw [show (fun l0 l1 b2 l3 l4 i5 i6 => RN 72 Tryd.f72 [] call icall n (tdOf Tryd.f72 0) (K72_0 l0 l1 b2 l3 l4 i5 i6)) = (L72 call n) from (funext fun l0 => funext fun l1 => funext fun b2 => funext fun l3 => funext fun l4 => funext fun i5 => funext fun i6 => ih l0 l1 b2 l3 l4 i5 i6)]; rfl)
theorem C72 (k : Nat) (a0 : List V) (a1 : List V) (a2 : List V) (a3 : Bool) : callN cfg (k + 1) 72 (A72 a0 a1 a2 a3) [] = T72 (callN cfg k) (L72 (callN cfg k) k) a0 a1 a2 a3 := by
 have ih := R72 (callN cfg k) (icallN cfg (callN cfg k) 20) k
 refine (show callN cfg (k + 1) 72 (A72 a0 a1 a2 a3) [] = GO 72 Tryd.f72 (A72 a0 a1 a2 a3) [] (callN cfg k) (icallN cfg (callN cfg k) 20) (RN 72 Tryd.f72 [] (callN cfg k) (icallN cfg (callN cfg k) 20) k) by kernel_rfl).trans ((E72 _ _ _ a0 a1 a2 a3).trans ?_)
 rw [show (fun l0 l1 b2 l3 l4 i5 i6 => RN 72 Tryd.f72 [] (callN cfg k) (icallN cfg (callN cfg k) 20) k (tdOf Tryd.f72 0) (K72_0 l0 l1 b2 l3 l4 i5 i6)) = (L72 (callN cfg k) k) from (funext fun l0 => funext fun l1 => funext fun b2 => funext fun l3 => funext fun l4 => funext fun i5 => funext fun i6 => ih l0 l1 b2 l3 l4 i5 i6)]
theorem M72 (a0 : List V) (a1 : List V) (a2 : List V) (a3 : Bool) {r : V × List Ob} (h : Evt (fun k n => T72 (callN cfg k) (L72 (callN cfg k) n) a0 a1 a2 a3) r) : Ret 72 [V.lst 5 false a0, V.lst 109 false a1, V.lst 9 false a2, V.bool a3] [] r := ret_mk (g := fun k n => T72 (callN cfg k) (L72 (callN cfg k) n) a0 a1 a2 a3) (fun k => C72 k a0 a1 a2 a3) h
theorem N72_0 (l0 : List V) (l1 : List V) (b2 : Bool) (l3 : List V) (l4 : List V) (i5 : Int) (i6 : Int) {r : V × List Ob} (h : Evt (fun k n => T72_0 (callN cfg k) (L72 (callN cfg k) n) l0 l1 b2 l3 l4 i5 i6) r) : Evt (fun k n => (L72 (callN cfg k) n) l0 l1 b2 l3 l4 i5 i6) r := evt_step (fun k n => rfl) h
def T93 (call : FuncId → Fun) (a0 : List V) (a1 : List UInt8) (a2 : Int) (a3 : Int) (a4 : Int) : Option (V × List Ob) :=
 Option.bind (call 109 [(V.lst 9 false a0), (V.clo (Fn.func 94) [] [(V.ref 0 0)])] [(Ob.cells [(V.str a1), (V.int .i64 a2), (V.int .i64 a3), (V.int .i64 a4)])]) fun z0 =>
 some ((V.bool (decide ((getI z0.1) ≥ (0 : Int)))), [(Ob.cells [(V.str (getS (headD (Ob.getC (headD z0.2 Ob.dead)) V.bot))), (V.int .i64 (getI (headD (tail (Ob.getC (headD z0.2 Ob.dead))) V.bot))), (V.int .i64 (getI (headD (tail (tail (Ob.getC (headD z0.2 Ob.dead)))) V.bot))), (V.int .i64 (getI (headD (tail (tail (tail (Ob.getC (headD z0.2 Ob.dead))))) V.bot)))])])
def O93 (a1 : List UInt8) (a2 : Int) (a3 : Int) (a4 : Int) : List Ob := [Ob.cells [V.str a1, V.int IntKind.i64 a2, V.int IntKind.i64 a3, V.int IntKind.i64 a4]]
def A93 (a0 : List V) : List V := [V.lst 9 false a0, V.clo (Fn.func 94) [] [V.ref 0 0]]
theorem E93 (a0 : List V) (a1 : List UInt8) (a2 : Int) (a3 : Int) (a4 : Int) : GO 93 Tryd.f93 (A93 a0) (O93 a1 a2 a3 a4) call icall again = T93 call a0 a1 a2 a3 a4 := by kernel_rfl
theorem C93 (k : Nat) (a0 : List V) (a1 : List UInt8) (a2 : Int) (a3 : Int) (a4 : Int) : callN cfg (k + 1) 93 (A93 a0) (O93 a1 a2 a3 a4) = T93 (callN cfg k) a0 a1 a2 a3 a4 :=
 (show callN cfg (k + 1) 93 (A93 a0) (O93 a1 a2 a3 a4) = GO 93 Tryd.f93 (A93 a0) (O93 a1 a2 a3 a4) (callN cfg k) (icallN cfg (callN cfg k) 20) (RN 93 Tryd.f93 (O93 a1 a2 a3 a4) (callN cfg k) (icallN cfg (callN cfg k) 20) k) by kernel_rfl).trans (E93 _ _ _ a0 a1 a2 a3 a4)
theorem M93 (a0 : List V) (a1 : List UInt8) (a2 : Int) (a3 : Int) (a4 : Int) {r : V × List Ob} (h : Evt (fun k n => T93 (callN cfg k) a0 a1 a2 a3 a4) r) : Ret 93 [V.lst 9 false a0, V.clo (Fn.func 94) [] [V.ref 0 0]] [Ob.cells [V.str a1, V.int IntKind.i64 a2, V.int IntKind.i64 a3, V.int IntKind.i64 a4]] r := ret_mk (g := fun k n => T93 (callN cfg k) a0 a1 a2 a3 a4) (fun k => C93 k a0 a1 a2 a3 a4) h
def T94 (call : FuncId → Fun) (a0 : List UInt8) (a1 : List UInt8) (a2 : Int) (a3 : Int) (a4 : Int) : Option (V × List Ob) :=
 Option.bind (call 62 [(V.str a1), (V.str a0)] []) fun z0 =>
 some ((V.bool (getB z0.1)), [(Ob.cells [(V.str a1), (V.int .i64 a2), (V.int .i64 a3), (V.int .i64 a4)])])
def O94 (a1 : List UInt8) (a2 : Int) (a3 : Int) (a4 : Int) : List Ob := [Ob.cells [V.str a1, V.int IntKind.i64 a2, V.int IntKind.i64 a3, V.int IntKind.i64 a4]]
def A94 (a0 : List UInt8) : List V := [V.str a0, V.ref 0 0]
theorem E94 (a0 : List UInt8) (a1 : List UInt8) (a2 : Int) (a3 : Int) (a4 : Int) : GO 94 Tryd.f94 (A94 a0) (O94 a1 a2 a3 a4) call icall again = T94 call a0 a1 a2 a3 a4 := by kernel_rfl
theorem C94 (k : Nat) (a0 : List UInt8) (a1 : List UInt8) (a2 : Int) (a3 : Int) (a4 : Int) : callN cfg (k + 1) 94 (A94 a0) (O94 a1 a2 a3 a4) = T94 (callN cfg k) a0 a1 a2 a3 a4 :=
 (show callN cfg (k + 1) 94 (A94 a0) (O94 a1 a2 a3 a4) = GO 94 Tryd.f94 (A94 a0) (O94 a1 a2 a3 a4) (callN cfg k) (icallN cfg (callN cfg k) 20) (RN 94 Tryd.f94 (O94 a1 a2 a3 a4) (callN cfg k) (icallN cfg (callN cfg k) 20) k) by kernel_rfl).trans (E94 _ _ _ a0 a1 a2 a3 a4)
theorem M94 (a0 : List UInt8) (a1 : List UInt8) (a2 : Int) (a3 : Int) (a4 : Int) {r : V × List Ob} (h : Evt (fun k n => T94 (callN cfg k) a0 a1 a2 a3 a4) r) : Ret 94 [V.str a0, V.ref 0 0] [Ob.cells [V.str a1, V.int IntKind.i64 a2, V.int IntKind.i64 a3, V.int IntKind.i64 a4]] r := ret_mk (g := fun k n => T94 (callN cfg k) a0 a1 a2 a3 a4) (fun k => C94 k a0 a1 a2 a3 a4) h
def T109_0 (call : FuncId → Fun) (ag0 : List V → Int → Int → List UInt8 → Int → Int → Int → Option (V × List Ob)) (l0 : List V) (i1 : Int) (i2 : Int) (s3 : List UInt8) (i4 : Int) (i5 : Int) (i6 : Int) : Option (V × List Ob) :=
 if (decide (i2 < i1)) = true then
 chk (decide (0 ≤ i2)) (chk (decide (i2 < ((length l0 : Nat) : Int))) (Option.bind (call 94 [(V.str (getS (getD l0 (Int.toNat i2) V.bot))), (V.ref 0 0)] [(Ob.cells [(V.str s3), (V.int .i64 i4), (V.int .i64 i5), (V.int .i64 i6)])]) fun z0 =>
 if (getB z0.1) = true then
 some ((V.int .i64 i2), [(Ob.cells [(V.str (getS (headD (Ob.getC (headD z0.2 Ob.dead)) V.bot))), (V.int .i64 (getI (headD (tail (Ob.getC (headD z0.2 Ob.dead))) V.bot))), (V.int .i64 (getI (headD (tail (tail (Ob.getC (headD z0.2 Ob.dead)))) V.bot))), (V.int .i64 (getI (headD (tail (tail (tail (Ob.getC (headD z0.2 Ob.dead))))) V.bot)))])])
 else
 (ag0 (l0) (i1) ((IntKind.wrap .i64 (i2 + (1 : Int)))) ((getS (headD (Ob.getC (headD z0.2 Ob.dead)) V.bot))) ((getI (headD (tail (Ob.getC (headD z0.2 Ob.dead))) V.bot))) ((getI (headD (tail (tail (Ob.getC (headD z0.2 Ob.dead)))) V.bot))) ((getI (headD (tail (tail (tail (Ob.getC (headD z0.2 Ob.dead))))) V.bot))))))
 else
 some ((V.int .i64 (-1 : Int)), [(Ob.cells [(V.str s3), (V.int .i64 i4), (V.int .i64 i5), (V.int .i64 i6)])])
def T109 (call : FuncId → Fun) (ag0 : List V → Int → Int → List UInt8 → Int → Int → Int → Option (V × List Ob)) (a0 : List V) (a1 : List UInt8) (a2 : Int) (a3 : Int) (a4 : Int) : Option (V × List Ob) :=
 (ag0 (a0) (((length a0 : Nat) : Int)) ((0 : Int)) (a1) (a2) (a3) (a4))
def O109 (a1 : List UInt8) (a2 : Int) (a3 : Int) (a4 : Int) : List Ob := [Ob.cells [V.str a1, V.int IntKind.i64 a2, V.int IntKind.i64 a3, V.int IntKind.i64 a4]]
def A109 (a0 : List V) : List V := [V.lst 9 false a0, V.clo (Fn.func 94) [] [V.ref 0 0]]
def K109_0 (l0 : List V) (i1 : Int) (i2 : Int) (s3 : List UInt8) (i4 : Int) (i5 : Int) (i6 : Int) : St := ⟨[(V.lst 9 false l0), (V.clo (Fn.func 94) [] [(V.ref 0 0)]), V.bot, V.bot, V.bot, V.bot, V.bot, (V.int IntKind.i64 i1), (V.int IntKind.i64 i2)] ++ List.replicate 10 V.bot, [(Ob.cells [(V.str s3), (V.int IntKind.i64 i4), (V.int IntKind.i64 i5), (V.int IntKind.i64 i6)])]⟩
theorem S109_0 (a1 : List UInt8) (a2 : Int) (a3 : Int) (a4 : Int) (l0 : List V) (i1 : Int) (i2 : Int) (s3 : List UInt8) (i4 : Int) (i5 : Int) (i6 : Int) :
 RM 109 Tryd.f109 (O109 a1 a2 a3 a4) call icall again (tdOf Tryd.f109 0) (K109_0 l0 i1 i2 s3 i4 i5 i6) = T109_0 call (fun l0 i1 i2 s3 i4 i5 i6 => again (tdOf Tryd.f109 0) (K109_0 l0 i1 i2 s3 i4 i5 i6)) l0 i1 i2 s3 i4 i5 i6 := by kernel_rfl
theorem E109 (a0 : List V) (a1 : List UInt8) (a2 : Int) (a3 : Int) (a4 : Int) : GO 109 Tryd.f109 (A109 a0) (O109 a1 a2 a3 a4) call icall again = T109 call (fun l0 i1 i2 s3 i4 i5 i6 => again (tdOf Tryd.f109 0) (K109_0 l0 i1 i2 s3 i4 i5 i6)) a0 a1 a2 a3 a4 := by kernel_rfl
def L109 (call : FuncId → Fun) : Nat → (List V → Int → Int → List UInt8 → Int → Int → Int → Option (V × List Ob))
 | 0 => fun _ _ _ _ _ _ _ => none
 | n + 1 => T109_0 call (L109 call n)
theorem R109 (call : FuncId → Fun) (icall : ICall (V × List Ob)) (a1 : List UInt8) (a2 : Int) (a3 : Int) (a4 : Int) : ∀ n, (∀ (l0 : List V) (i1 : Int) (i2 : Int) (s3 : List UInt8) (i4 : Int) (i5 : Int) (i6 : Int), RN 109 Tryd.f109 (O109 a1 a2 a3 a4) call icall n (tdOf Tryd.f109 0) (K109_0 l0 i1 i2 s3 i4 i5 i6) = (L109 call n) l0 i1 i2 s3 i4 i5 i6)
  | 0 => fun l0 i1 i2 s3 i4 i5 i6 => rfl
  | n + 1 => by
    have ih := R109 call icall a1 a2 a3 a4 n
    exact fun l0 i1 i2 s3 i4 i5 i6 => (S109_0 call icall (RN 109 Tryd.f109 (O109 a1 a2 a3 a4) call icall n) a1 a2 a3 a4 l0 i1 i2 s3 i4 i5 i6).trans (by rw [show (fun l0 i1 i2 s3 i4 i5 i6 => RN 109 Tryd.f109 (O109 a1 a2 a3 a4) call icall n (tdOf Tryd.f109 0) (K109_0 l0 i1 i2 s3 i4 i5 i6)) = (L109 call n) from (funext fun l0 => funext fun i1 => funext fun i2 => funext fun s3 => funext fun i4 => funext fun i5 => funext fun i6 => ih l0 i1 i2 s3 i4 i5 i6)]; rfl)
theorem C109 (k : Nat) (a0 : List V) (a1 : List UInt8) (a2 : Int) (a3 : Int) (a4 : Int) : callN cfg (k + 1) 109 (A109 a0) (O109 a1 a2 a3 a4) = T109 (callN cfg k) (L109 (callN cfg k) k) a0 a1 a2 a3 a4 := by
 have ih := R109 (callN cfg k) (icallN cfg (callN cfg k) 20) a1 a2 a3 a4 k
 refine (show callN cfg (k + 1) 109 (A109 a0) (O109 a1 a2 a3 a4) = GO 109 Tryd.f109 (A109 a0) (O109 a1 a2 a3 a4) (callN cfg k) (icallN cfg (callN cfg k) 20) (RN 109 Tryd.f109 (O109 a1 a2 a3 a4) (callN cfg k) (icallN cfg (callN cfg k) 20) k) by kernel_rfl).trans ((E109 _ _ _ a0 a1 a2 a3 a4).trans ?_)
 rw [show (fun l0 i1 i2 s3 i4 i5 i6 => RN 109 Tryd.f109 (O109 a1 a2 a3 a4) (callN cfg k) (icallN cfg (callN cfg k) 20) k (tdOf Tryd.f109 0) (K109_0 l0 i1 i2 s3 i4 i5 i6)) = (L109 (callN cfg k) k) from (funext fun l0 => funext fun i1 => funext fun i2 => funext fun s3 => funext fun i4 => funext fun i5 => funext fun i6 => ih l0 i1 i2 s3 i4 i5 i6)]
theorem M109 (a0 : List V) (a1 : List UInt8) (a2 : Int) (a3 : Int) (a4 : Int) {r : V × List Ob} (h : Evt (fun k n => T109 (callN cfg k) (L109 (callN cfg k) n) a0 a1 a2 a3 a4) r) : Ret 109 [V.lst 9 false a0, V.clo (Fn.func 94) [] [V.ref 0 0]] [Ob.cells [V.str a1, V.int IntKind.i64 a2, V.int IntKind.i64 a3, V.int IntKind.i64 a4]] r := ret_mk (g := fun k n => T109 (callN cfg k) (L109 (callN cfg k) n) a0 a1 a2 a3 a4) (fun k => C109 k a0 a1 a2 a3 a4) h
theorem N109_0 (l0 : List V) (i1 : Int) (i2 : Int) (s3 : List UInt8) (i4 : Int) (i5 : Int) (i6 : Int) {r : V × List Ob} (h : Evt (fun k n => T109_0 (callN cfg k) (L109 (callN cfg k) n) l0 i1 i2 s3 i4 i5 i6) r) : Evt (fun k n => (L109 (callN cfg k) n) l0 i1 i2 s3 i4 i5 i6) r := evt_step (fun k n => rfl) h
end Go.Proofs.YtemgbdncidgoiaaDoor
end
section
namespace Go.Proofs.YtemgbdncidgoiaaDoor
open Go.Ev Go
theorem ret54 (b : Bs) (hb : b.length ≤ 1000000000) : Ret 54 [.lst 5 false (ofBytes b)] [] (.lst 5 false (ofBytes b), []) := by
  refine ret_hand (h := cloneF) (by kernel_rfl) ?_
  have h1 := byteV_ofBytes b
  have h2 : (ofBytes b).length < 1099511627776 := by rw [ofBytes_length]; omega
  simp only [cloneF, h1, h2, decide_true, Bool.and_self, if_true]
def bytesF (b : Bs) (x y : Nat) : Bs := if x ≤ y ∧ y ≤ b.length then subF b x y else []
theorem ofB_sub (b : Bs) (x y : Nat) : List.drop x (List.take y (ofBytes b)) = ofBytes (subF b x y) := by simp [ofBytes, subF, List.map_drop, List.map_take]
theorem subF_le (b : Bs) (x y : Nat) : (subF b x y).length ≤ b.length := by unfold subF; rw [List.length_drop, List.length_take]; omega
theorem bytesF_le (b : Bs) (x y : Nat) : (bytesF b x y).length ≤ b.length := by
  unfold bytesF
  split
  · exact subF_le b x y
  · simp
theorem ret53 (b : Bs) (hb : b.length ≤ 1000000) (x y : Nat) : Ret 53 [.lst 5 false (ofBytes b), .agg [.int .i64 (x : Nat), .int .i64 (y : Nat)]] [] (.lst 5 false (ofBytes (bytesF b x y)), []) := by
  refine M53 (ofBytes b) (x : Nat) (y : Nat) ?_
  simp only [T53, ofBytes_length]
  refine evt_bind (ret73 (x : Nat) (y : Nat) (b.length : Nat)) ?_
  simp only [getB_bool]
  unfold bytesF
  by_cases h : x ≤ y ∧ y ≤ b.length
  · have h1 : (0 : Int) ≤ (x : Nat) ∧ ((x : Nat) : Int) ≤ (y : Nat) ∧ ((y : Nat) : Int) ≤ (b.length : Nat) := by omega
    have h2 : (0 : Int) ≤ (y : Nat) := by omega
    have hl := subF_le b x y
    rw [if_pos h]
    simp only [decide_eq_true h1, Bool.not_true, Bool.false_eq_true, if_false, chk_p h2, chk_p h1.2.2, chk_p h1.1, chk_p h1.2.1, Int.toNat_natCast, ofB_sub]
    refine evt_bind (ret54 (subF b x y) (by omega)) ?_
    simp only [getL_lst]
    exact evt_some _
  · have h1 : ¬ ((0 : Int) ≤ (x : Nat) ∧ ((x : Nat) : Int) ≤ (y : Nat) ∧ ((y : Nat) : Int) ≤ (b.length : Nat)) := by omega
    rw [if_neg h]
    simp only [decide_eq_false h1, Bool.not_false, if_true]
    exact evt_some _
theorem ret69 (n l : Int) : Ret 69 [.int .i64 n, .int .i64 l] [] (.bool (decide (l ≤ n ∧ n ≤ 4294967295)), []) := by
  refine M69 n l ?_
  simp only [T69]
  refine evt_opt (v := decide (l ≤ n ∧ n ≤ 4294967295)) ?_ (evt_some _)
  by_cases h1 : l ≤ n
  · by_cases h2 : n ≤ 4294967295 <;> simp [h1, h2]
  · have : ¬ (n ≥ l) := h1
    simp only [this, h1, decide_false, Bool.false_eq_true, if_false, false_and]
def prB (c : UInt8) : Bool := decide (32 ≤ c.toNat ∧ c.toNat < 127)
theorem loop70 (s : Bs) (hs : s.length ≤ 1000000) : ∀ (m i : Nat), s.length - i = m → i ≤ s.length →
    Evt (fun k j => L70 (callN cfg k) j s (s.length : Nat) (i : Nat)) (.bool ((s.drop i).all prB), [])
  | 0, i, h, hi => by
    refine N70_0 s (s.length : Nat) (i : Nat) ?_
    have h1 : ¬ (((i : Nat) : Int) < ((s.length : Nat) : Int)) := by omega
    rw [List.drop_eq_nil_of_le (by omega)]
    simp only [T70_0, h1, decide_false, Bool.false_eq_true, if_false]
    exact evt_some _
  | m + 1, i, h, hi => by
    have hlt : i < s.length := by omega
    refine N70_0 s (s.length : Nat) (i : Nat) ?_
    have h1 : (((i : Nat) : Int) < ((s.length : Nat) : Int)) := by omega
    have h2 : (0 : Int) ≤ (i : Nat) := by omega
    have hw : IntKind.wrap .i64 (((i : Nat) : Int) + 1) = ((i + 1 : Nat) : Int) := by rw [wrap64 (by omega) (by omega)]; omega
    rw [drop_at hlt, List.all_cons]
    simp only [T70_0, h1, decide_true, if_true, chk_p h2, chk_t, Int.toNat_natCast, getD_at hlt, hw]
    by_cases q1 : ((s[i].toNat : Nat) : Int) < 32
    · have hp : prB s[i] = false := by unfold prB; exact decide_eq_false (by omega)
      simp only [q1, decide_true, Bool.true_eq_false, if_false, bind_s, if_true, hp, Bool.false_and]
      exact evt_some _
    · by_cases q2 : ((s[i].toNat : Nat) : Int) ≥ 127
      · have hp : prB s[i] = false := by unfold prB; exact decide_eq_false (by omega)
        simp only [q1, q2, decide_true, decide_false, if_true, bind_s, hp, Bool.false_and]
        exact evt_some _
      · have hp : prB s[i] = true := by unfold prB; exact decide_eq_true (by omega)
        simp only [q1, q2, decide_false, if_true, bind_s, Bool.false_eq_true, if_false, hp, Bool.true_and]
        exact loop70 s hs m (i + 1) (by omega) (by omega)
theorem ret70 (s : Bs) (hs : s.length ≤ 1000000) : Ret 70 [.str s] [] (.bool (s.all prB), []) := by
  refine M70 s ?_
  simp only [T70]
  have := loop70 s hs s.length 0 (by omega) (by omega)
  rw [List.drop_zero] at this
  exact this
structure Sp where
  path : List Int
  what : Int
  names : List Bs
  cut : Bool
  fr : Int
  many : Int
def pathV (n : Int) : V := .int .i64 n
def specV (s : Sp) : V := .agg [.lst 3 false (s.path.map pathV), .int .i64 s.what, .lst 9 false (s.names.map V.str), .bool s.cut, .int .i64 s.fr, .int .i64 s.many]
def inB (l n : Int) : Bool := decide (l ≤ n ∧ n ≤ 4294967295)
def checkF (s : Sp) : Bool :=
  decide (s.path.length ≤ 64 ∧ 0 ≤ s.what ∧ s.what ≤ 5 ∧ (s.what = 5 → 0 < s.path.length)) && s.path.all (inB 1) && s.names.all (fun n => n.all prB) &&
  (if s.what = 2 ∨ s.what = 3 then decide (1 ≤ s.names.length ∧ s.names.length ≤ 100) else decide (s.names.length = 0)) &&
  (if s.cut then inB 0 s.fr && inB 1 s.many else decide (s.fr = 0 ∧ s.many = 0))
theorem ret71 (s : Sp) : Ret 71 [specV s] [] (.bool (decide (s.what = 2 ∨ s.what = 3)), []) := by
  refine M71 (s.path.map pathV) s.what (s.names.map V.str) s.cut s.fr s.many ?_
  simp only [T71]
  refine evt_opt (v := decide (s.what = 2 ∨ s.what = 3)) ?_ (evt_some _)
  by_cases h1 : s.what = 2
  · simp [h1]
  · by_cases h2 : s.what = 3
    · simp [h2]
    · simp [h1, h2]
theorem check_end (s : Sp) (b0 : Bool) (i : Int) (hi : i = (s.names.length : Nat)) :
    Evt (fun k j => (L51 (callN cfg k) j).2 b0 (s.names.map V.str) (s.names.length : Nat) i (s.path.map pathV) s.what (s.names.map V.str) s.cut s.fr s.many)
      (.int .i64 (if b0 && (if s.what = 2 ∨ s.what = 3 then decide (1 ≤ s.names.length ∧ s.names.length ≤ 100) else decide (s.names.length = 0)) && (if s.cut then inB 0 s.fr && inB 1 s.many else decide (s.fr = 0 ∧ s.many = 0)) then 0 else 1), []) := by
  subst hi
  refine N51_1 b0 (s.names.map V.str) (s.names.length : Nat) (s.names.length : Nat) (s.path.map pathV) s.what (s.names.map V.str) s.cut s.fr s.many ?_
  have h1 : ¬ (((s.names.length : Nat) : Int) < ((s.names.length : Nat) : Int)) := by omega
  simp only [T51_1, h1, decide_false, Bool.false_eq_true, if_false, List.length_map]
  refine evt_bind (ret71 s) ?_
  simp only [getB_bool]
  have hfin : ∀ y : Bool, Evt (fun k j => if s.cut = true then
        if y = true then
          Option.bind (callN cfg k 69 [(V.int .i64 s.fr), (V.int .i64 (0 : Int))] []) fun z2 =>
          if (V.getB z2.1) = true then
            Option.bind (callN cfg k 69 [(V.int .i64 s.many), (V.int .i64 (1 : Int))] []) fun z3 =>
            if (!(V.getB z3.1)) = true then some ((V.int .i64 (1 : Int)), []) else some ((V.int .i64 (0 : Int)), [])
          else if (!false) = true then some ((V.int .i64 (1 : Int)), []) else some ((V.int .i64 (0 : Int)), [])
        else if (!false) = true then some ((V.int .i64 (1 : Int)), []) else some ((V.int .i64 (0 : Int)), [])
      else
        Option.bind (if y = true then if (s.fr == (0 : Int)) = true then some (s.many == (0 : Int)) else some false else some false) fun y2 =>
        if (!y2) = true then some ((V.int .i64 (1 : Int)), []) else some ((V.int .i64 (0 : Int)), []))
      (V.int .i64 (if y && (if s.cut then inB 0 s.fr && inB 1 s.many else decide (s.fr = 0 ∧ s.many = 0)) then 0 else 1), ([] : List Ob)) := by
    intro y
    cases hc : s.cut with
    | true =>
      cases y with
      | true =>
        simp only [if_true]
        refine evt_bind (ret69 s.fr 0) ?_
        simp only [getB_bool]
        unfold inB
        by_cases k1 : 0 ≤ s.fr ∧ s.fr ≤ 4294967295
        · simp only [decide_eq_true k1, if_true, Bool.true_and]
          refine evt_bind (ret69 s.many 1) ?_
          simp only [getB_bool]
          by_cases k2 : 1 ≤ s.many ∧ s.many ≤ 4294967295
          · simp only [decide_eq_true k2, Bool.not_true, Bool.false_eq_true, if_false, if_true]; exact evt_some _
          · simp only [decide_eq_false k2, Bool.not_false, if_true, Bool.false_eq_true, if_false]; exact evt_some _
        · simp only [decide_eq_false k1, Bool.false_eq_true, if_false, Bool.not_false, if_true, Bool.false_and, Bool.and_false]; exact evt_some _
      | false => simp only [if_true, Bool.false_eq_true, if_false, Bool.not_false, Bool.false_and]; exact evt_some _
    | false =>
      simp only [Bool.false_eq_true, if_false]
      refine evt_opt (v := y && decide (s.fr = 0 ∧ s.many = 0)) ?_ ?_
      · cases y with
        | false => simp
        | true =>
          by_cases k1 : s.fr = 0
          · by_cases k2 : s.many = 0 <;> simp [k1, k2]
          · simp [k1]
      · cases hy : (y && decide (s.fr = 0 ∧ s.many = 0)) with
        | true => simp only [Bool.not_true, Bool.false_eq_true, if_false, if_true]; exact evt_some _
        | false => simp only [Bool.not_false, if_true, Bool.false_eq_true, if_false]; exact evt_some _
  by_cases hw : s.what = 2 ∨ s.what = 3
  · simp only [decide_eq_true hw, if_true, if_pos hw]
    refine evt_opt (v := b0 && decide (1 ≤ s.names.length ∧ s.names.length ≤ 100)) ?_ (hfin _)
    cases b0 with
    | false => simp
    | true =>
      by_cases k1 : 1 ≤ s.names.length
      · have k1' : ((s.names.length : Nat) : Int) ≥ 1 := by omega
        by_cases k2 : s.names.length ≤ 100
        · have k2' : ((s.names.length : Nat) : Int) ≤ 100 := by omega
          simp only [k1, k2, k1', k2', decide_true, if_true, and_self, Bool.and_self]
        · have k2' : ¬ (((s.names.length : Nat) : Int) ≤ 100) := by omega
          simp only [k1, k2, k1', k2', decide_true, decide_false, if_true, and_false, Bool.and_false]
      · have k1' : ¬ (((s.names.length : Nat) : Int) ≥ 1) := by omega
        simp only [k1, k1', decide_false, Bool.false_eq_true, if_false, if_true, false_and, Bool.and_false]
  · simp only [decide_eq_false hw, Bool.false_eq_true, if_false, if_neg hw]
    refine evt_opt (v := b0 && decide (s.names.length = 0)) ?_ (hfin _)
    cases b0 with
    | false => simp
    | true =>
      have : (((s.names.length : Nat) : Int) == (0 : Int)) = decide (s.names.length = 0) := by
        by_cases k : s.names.length = 0
        · rw [k]; rfl
        · have : ¬ (((s.names.length : Nat) : Int) = 0) := by omega
          simp only [k, decide_false, beq_eq_false_iff_ne, ne_eq, this, not_false_eq_true]
      simp only [this, if_true, Bool.true_and]
theorem loop51_1 (s : Sp) (hn : s.names.length ≤ 1000000) (hv : ∀ n ∈ s.names, n.length ≤ 1000000) : ∀ (m i : Nat) (b0 : Bool), s.names.length - i = m → i ≤ s.names.length →
    Evt (fun k j => (L51 (callN cfg k) j).2 b0 (s.names.map V.str) (s.names.length : Nat) (i : Nat) (s.path.map pathV) s.what (s.names.map V.str) s.cut s.fr s.many)
      (.int .i64 (if b0 && (s.names.drop i).all (fun n => n.all prB) && (if s.what = 2 ∨ s.what = 3 then decide (1 ≤ s.names.length ∧ s.names.length ≤ 100) else decide (s.names.length = 0)) && (if s.cut then inB 0 s.fr && inB 1 s.many else decide (s.fr = 0 ∧ s.many = 0)) then 0 else 1), [])
  | 0, i, b0, h, hi => by
    rw [List.drop_eq_nil_of_le (by omega), List.all_nil, Bool.and_true]
    exact check_end s b0 (i : Nat) (by omega)
  | m + 1, i, b0, h, hi => by
    have hlt : i < s.names.length := by omega
    refine N51_1 b0 (s.names.map V.str) (s.names.length : Nat) (i : Nat) (s.path.map pathV) s.what (s.names.map V.str) s.cut s.fr s.many ?_
    have h1 : (((i : Nat) : Int) < ((s.names.length : Nat) : Int)) := by omega
    have h2 : (0 : Int) ≤ (i : Nat) := by omega
    have hw : IntKind.wrap .i64 (((i : Nat) : Int) + 1) = ((i + 1 : Nat) : Int) := by rw [wrap64 (by omega) (by omega)]; omega
    have hg : (s.names.map V.str).getD i .bot = .str s.names[i] := by simp [List.getD, hlt]
    have hd : s.names.drop i = s.names[i] :: s.names.drop (i + 1) := List.drop_eq_getElem_cons hlt
    rw [hd, List.all_cons]
    simp only [T51_1, h1, decide_true, if_true, chk_p h2, List.length_map, chk_t, Int.toNat_natCast, hg, getS_str, hw]
    cases b0 with
    | true =>
      simp only [if_true]
      refine evt_bind (ret70 s.names[i] (hv _ (List.getElem_mem hlt))) ?_
      simp only [getB_bool]
      have := loop51_1 s hn hv m (i + 1) (s.names[i].all prB) (by omega) (by omega)
      rw [Bool.true_and]
      exact this
    | false =>
      simp only [Bool.false_eq_true, if_false]
      have := loop51_1 s hn hv m (i + 1) false (by omega) (by omega)
      simpa only [Bool.false_and] using this
theorem loop51_0 (s : Sp) (hn : s.names.length ≤ 1000000) (hv : ∀ n ∈ s.names, n.length ≤ 1000000) (hp : s.path.length ≤ 1000000) : ∀ (m i : Nat) (b0 : Bool), s.path.length - i = m → i ≤ s.path.length →
    Evt (fun k j => (L51 (callN cfg k) j).1 b0 (s.path.map pathV) (s.path.length : Nat) (i : Nat) (s.path.map pathV) s.what (s.names.map V.str) s.cut s.fr s.many)
      (.int .i64 (if b0 && (s.path.drop i).all (inB 1) && s.names.all (fun n => n.all prB) && (if s.what = 2 ∨ s.what = 3 then decide (1 ≤ s.names.length ∧ s.names.length ≤ 100) else decide (s.names.length = 0)) && (if s.cut then inB 0 s.fr && inB 1 s.many else decide (s.fr = 0 ∧ s.many = 0)) then 0 else 1), [])
  | 0, i, b0, h, hi => by
    refine N51_0 b0 (s.path.map pathV) (s.path.length : Nat) (i : Nat) (s.path.map pathV) s.what (s.names.map V.str) s.cut s.fr s.many ?_
    have h1 : ¬ (((i : Nat) : Int) < ((s.path.length : Nat) : Int)) := by omega
    rw [List.drop_eq_nil_of_le (by omega), List.all_nil, Bool.and_true]
    simp only [T51_0, h1, decide_false, Bool.false_eq_true, if_false, List.length_map]
    exact loop51_1 s hn hv s.names.length 0 b0 (by omega) (by omega)
  | m + 1, i, b0, h, hi => by
    have hlt : i < s.path.length := by omega
    refine N51_0 b0 (s.path.map pathV) (s.path.length : Nat) (i : Nat) (s.path.map pathV) s.what (s.names.map V.str) s.cut s.fr s.many ?_
    have h1 : (((i : Nat) : Int) < ((s.path.length : Nat) : Int)) := by omega
    have h2 : (0 : Int) ≤ (i : Nat) := by omega
    have hw : IntKind.wrap .i64 (((i : Nat) : Int) + 1) = ((i + 1 : Nat) : Int) := by rw [wrap64 (by omega) (by omega)]; omega
    have hg : (s.path.map pathV).getD i .bot = .int .i64 s.path[i] := by simp [List.getD, hlt, pathV]
    have hd : s.path.drop i = s.path[i] :: s.path.drop (i + 1) := List.drop_eq_getElem_cons hlt
    rw [hd, List.all_cons]
    simp only [T51_0, h1, decide_true, if_true, chk_p h2, List.length_map, chk_t, Int.toNat_natCast, hg, getI_int, hw]
    cases b0 with
    | true =>
      simp only [if_true]
      refine evt_bind (ret69 s.path[i] 1) ?_
      simp only [getB_bool]
      have := loop51_0 s hn hv hp m (i + 1) (inB 1 s.path[i]) (by omega) (by omega)
      rw [Bool.true_and]
      exact this
    | false =>
      simp only [Bool.false_eq_true, if_false]
      have := loop51_0 s hn hv hp m (i + 1) false (by omega) (by omega)
      simpa only [Bool.false_and] using this
theorem ret51 (s : Sp) (hn : s.names.length ≤ 1000000) (hv : ∀ n ∈ s.names, n.length ≤ 1000000) (hp : s.path.length ≤ 1000000) : Ret 51 [specV s] [] (.int .i64 (if checkF s then 0 else 1), []) := by
  refine M51 (s.path.map pathV) s.what (s.names.map V.str) s.cut s.fr s.many ?_
  simp only [T51, List.length_map]
  refine evt_opt (v := decide (s.path.length ≤ 64 ∧ 0 ≤ s.what ∧ s.what ≤ 5 ∧ (s.what = 5 → 0 < s.path.length))) ?_ ?_
  · by_cases k1 : s.path.length ≤ 64
    · have k1' : ((s.path.length : Nat) : Int) ≤ 64 := by omega
      by_cases k2 : 0 ≤ s.what
      · have k2' : s.what ≥ 0 := k2
        by_cases k3 : s.what ≤ 5
        · by_cases k4 : s.what = 5
          · have k5 : decide (((s.path.length : Nat) : Int) > 0) = decide (0 < s.path.length) := by
              by_cases k : 0 < s.path.length
              · have : ((s.path.length : Nat) : Int) > 0 := by omega
                simp only [k, this, decide_true]
              · have : ¬ (((s.path.length : Nat) : Int) > 0) := by omega
                simp only [k, this, decide_false]
            simp [k1, k1', k4, k5]
          · have k4' : (s.what != 5) = true := by simp [k4]
            simp [k1, k1', k2, k2', k3, k4, k4']
        · simp [k1, k1', k2, k2', k3]
      · have k2' : ¬ (s.what ≥ 0) := k2
        simp [k1, k1', k2, k2']
    · have k1' : ¬ (((s.path.length : Nat) : Int) ≤ 64) := by omega
      simp only [k1, k1', decide_false, Bool.false_eq_true, if_false, false_and]
  · have := loop51_0 s hn hv hp s.path.length 0 (decide (s.path.length ≤ 64 ∧ 0 ≤ s.what ∧ s.what ≤ 5 ∧ (s.what = 5 → 0 < s.path.length))) (by omega) (by omega)
    rw [List.drop_zero] at this
    exact this
end Go.Proofs.YtemgbdncidgoiaaDoor
end
section
namespace Go.Proofs.YtemgbdncidgoiaaDoor
open Go.Ev Go
def hasN (names : List Bs) (x : Bs) : Bool := names.any fun n => low x == low n
def idxS (x : Bs) : List Bs → Option Nat
  | [] => none
  | n :: r => if low x == low n then some 0 else (idxS x r).map (· + 1)
theorem idxS_has (x : Bs) : ∀ l : List Bs, decide (optI (idxS x l) ≥ 0) = hasN l x
  | [] => rfl
  | n :: r => by
    have ih := idxS_has x r
    unfold hasN at ih ⊢
    rw [idxS, List.any_cons]
    cases h : (low x == low n) with
    | true => simp [optI]
    | false =>
      simp only [Bool.false_eq_true, if_false, Bool.false_or]
      rw [← ih]
      cases idxS x r with
      | none => rfl
      | some k => simp only [Option.map_some, optI]; simp; omega
theorem ret94 (n x : Bs) (p q r : Int) (hn : n.length ≤ 1000000) (hx : x.length ≤ 1000000) :
    Ret 94 [.str n, .ref 0 0] [.cells [.str x, .int .i64 p, .int .i64 q, .int .i64 r]] (.bool (low x == low n), [.cells [.str x, .int .i64 p, .int .i64 q, .int .i64 r]]) := by
  refine M94 n x p q r ?_
  simp only [T94]
  refine evt_bind (ret62 x n (by omega) (by omega)) ?_
  exact evt_some _
theorem loop109 (x : Bs) (hx : x.length ≤ 1000000) (p q r : Int) (l : List Bs) (hl : l.length ≤ 1000000) (hv : ∀ n ∈ l, n.length ≤ 1000000) : ∀ (m i : Nat), l.length - i = m → i ≤ l.length →
    Evt (fun k j => L109 (callN cfg k) j (l.map V.str) (l.length : Nat) (i : Nat) x p q r) (.int .i64 (optI ((idxS x (l.drop i)).map (· + i))), [.cells [.str x, .int .i64 p, .int .i64 q, .int .i64 r]])
  | 0, i, h, hi => by
    refine N109_0 (l.map V.str) (l.length : Nat) (i : Nat) x p q r ?_
    have h1 : ¬ (((i : Nat) : Int) < ((l.length : Nat) : Int)) := by omega
    rw [List.drop_eq_nil_of_le (by omega)]
    simp only [T109_0, h1, decide_false, Bool.false_eq_true, if_false]
    exact evt_some _
  | m + 1, i, h, hi => by
    have hlt : i < l.length := by omega
    refine N109_0 (l.map V.str) (l.length : Nat) (i : Nat) x p q r ?_
    have h1 : (((i : Nat) : Int) < ((l.length : Nat) : Int)) := by omega
    have h2 : (0 : Int) ≤ (i : Nat) := by omega
    have hw : IntKind.wrap .i64 (((i : Nat) : Int) + 1) = ((i + 1 : Nat) : Int) := by rw [wrap64 (by omega) (by omega)]; omega
    have hg : (l.map V.str).getD i .bot = .str l[i] := by simp [List.getD, hlt]
    have hd : l.drop i = l[i] :: l.drop (i + 1) := List.drop_eq_getElem_cons hlt
    rw [hd, idxS]
    simp only [T109_0, h1, decide_true, if_true, chk_p h2, List.length_map, chk_t, Int.toNat_natCast, hg, getS_str, hw]
    refine evt_bind (ret94 l[i] x p q r (hv _ (List.getElem_mem hlt)) hx) ?_
    simp only [getB_bool, Ob.getC, List.headD_cons, List.tail_cons, getS_str, getI_int]
    cases hs : (low x == low l[i]) with
    | true =>
      simp only [if_true, Option.map_some, Nat.zero_add, optI]
      exact evt_some _
    | false =>
      simp only [Bool.false_eq_true, if_false]
      have := loop109 x hx p q r l hl hv m (i + 1) (by omega) (by omega)
      rw [Option.map_map]
      have he : ((fun y : Nat => y + i) ∘ fun y => y + 1) = fun y => y + (i + 1) := by funext y; simp only [Function.comp]; omega
      rw [he]
      exact this
theorem ret93 (x : Bs) (hx : x.length ≤ 1000000) (p q r : Int) (l : List Bs) (hl : l.length ≤ 1000000) (hv : ∀ n ∈ l, n.length ≤ 1000000) :
    Ret 93 [.lst 9 false (l.map V.str), .clo (Fn.func 94) [] [.ref 0 0]] [.cells [.str x, .int .i64 p, .int .i64 q, .int .i64 r]] (.bool (hasN l x), [.cells [.str x, .int .i64 p, .int .i64 q, .int .i64 r]]) := by
  refine M93 (l.map V.str) x p q r ?_
  simp only [T93]
  have h109 : Ret 109 [.lst 9 false (l.map V.str), .clo (Fn.func 94) [] [.ref 0 0]] [.cells [.str x, .int .i64 p, .int .i64 q, .int .i64 r]] (.int .i64 (optI (idxS x l)), [.cells [.str x, .int .i64 p, .int .i64 q, .int .i64 r]]) := by
    refine M109 (l.map V.str) x p q r ?_
    simp only [T109, List.length_map]
    have := loop109 x hx p q r l hl hv l.length 0 (by omega) (by omega)
    simpa using this
  refine evt_bind h109 ?_
  simp only [getI_int, Ob.getC, List.headD_cons, List.tail_cons, getS_str]
  rw [← idxS_has x l]
  exact evt_some _
def stepS (b : Bs) (names : List Bs) (but : Bool) (out : Bs) (f : Fd) : Bs :=
  if hasN names f.1 = but then out else if f.2.1 ≤ f.2.2.2 ∧ f.2.2.2 ≤ b.length then
    out ++ subF b f.2.1 f.2.2.2 ++ (if f.2.2.2 = f.2.1 ∨ b.getD (f.2.2.2 - 1) 0 ≠ 10 then [13, 10] else [])
  else out
def someF (b : Bs) (l : List Fd) (names : List Bs) (but : Bool) : Bs := l.foldl (stepS b names but) [] ++ [13, 10]
theorem stepS_len (b : Bs) (names : List Bs) (but : Bool) (out : Bs) (f : Fd) : (stepS b names but out f).length ≤ out.length + b.length + 2 := by
  have := subF_le b f.2.1 f.2.2.2
  unfold stepS
  split
  · omega
  · split
    · split
      · simp only [List.length_append, List.length_cons, List.length_nil]; omega
      · simp only [List.length_append, List.length_nil]; omega
    · omega
theorem loop72 (b : Bs) (hb : b.length ≤ 100000) (names : List Bs) (hn : names.length ≤ 1000000) (hv : ∀ n ∈ names, n.length ≤ 1000000) (but : Bool) (l : List Fd) (hl : l.length ≤ 100000) (hf : ∀ f ∈ l, f.1.length ≤ 1000000 ∧ f.2.2.2 ≤ 1000000) : ∀ (m i : Nat) (out : Bs), l.length - i = m → i ≤ l.length → out.length ≤ i * 100002 →
    Evt (fun k j => L72 (callN cfg k) j (ofBytes b) (names.map V.str) but (ofBytes out) (l.map fdV) (l.length : Nat) (i : Nat)) (.lst 5 false (ofBytes ((l.drop i).foldl (stepS b names but) out ++ [13, 10])), [])
  | 0, i, out, h, hi, ho => by
    refine N72_0 (ofBytes b) (names.map V.str) but (ofBytes out) (l.map fdV) (l.length : Nat) (i : Nat) ?_
    have h1 : ¬ (((i : Nat) : Int) < ((l.length : Nat) : Int)) := by omega
    have hm : i * 100002 ≤ 100000 * 100002 := Nat.mul_le_mul_right _ (by omega)
    have c1 : appOkS (ofBytes out) [13, 10] 2 = true := by
      have : (out.length + 2) * 2 ≤ 70368744177664 := by omega
      simp only [appOkS, ofBytes_length, List.length_cons, List.length_nil]
      exact decide_eq_true this
    rw [List.drop_eq_nil_of_le (by omega), List.foldl_nil]
    simp only [T72_0, h1, decide_false, Bool.false_eq_true, if_false, chk_b c1, ofBytes_append]
    exact evt_some _
  | m + 1, i, out, h, hi, ho => by
    have hlt : i < l.length := by omega
    refine N72_0 (ofBytes b) (names.map V.str) but (ofBytes out) (l.map fdV) (l.length : Nat) (i : Nat) ?_
    have h1 : (((i : Nat) : Int) < ((l.length : Nat) : Int)) := by omega
    have h2 : (0 : Int) ≤ (i : Nat) := by omega
    have hw : IntKind.wrap .i64 (((i : Nat) : Int) + 1) = ((i + 1 : Nat) : Int) := by rw [wrap64 (by omega) (by omega)]; omega
    have hm : i * 100002 ≤ 100000 * 100002 := Nat.mul_le_mul_right _ (by omega)
    have hd : l.drop i = l[i] :: l.drop (i + 1) := List.drop_eq_getElem_cons hlt
    have hg := getD_fd hlt
    obtain ⟨f1, f4⟩ := hf _ (List.getElem_mem hlt)
    have hsl := stepS_len b names but out l[i]
    have hnext := loop72 b hb names hn hv but l hl hf m (i + 1) (stepS b names but out l[i]) (by omega) (by omega) (by omega)
    rw [hd, List.foldl_cons]
    generalize l[i] = f at *
    obtain ⟨x, p, q, r⟩ := f
    simp only at f1 f4
    simp only [T72_0, h1, decide_true, if_true, chk_p h2, List.length_map, chk_t, Int.toNat_natCast, hg, fdV, cells_agg, List.headD_cons, List.tail_cons, getS_str, getI_int, hw, ofBytes_length]
    refine evt_bind (ret93 x f1 (p : Nat) (q : Nat) (r : Nat) names hn hv) ?_
    dsimp +instances only [getB_bool, Ob.getC, List.headD_cons, List.tail_cons, getI_int]
    by_cases hin : hasN names x = but
    · have e1 : (hasN names x == but) = true := by simp [hin]
      have e2 : stepS b names but out (x, p, q, r) = out := by unfold stepS; rw [if_pos hin]
      simp only [e1, Bool.true_eq_false, if_false]
      rw [e2] at hnext ⊢
      exact hnext
    · have e1 : (hasN names x == but) = false := by simp [hin]
      simp only [e1, if_true]
      refine evt_bind (ret73 (p : Nat) (r : Nat) (b.length : Nat)) ?_
      simp only [getB_bool]
      by_cases hwi : p ≤ r ∧ r ≤ b.length
      · have k1 : (0 : Int) ≤ (p : Nat) ∧ ((p : Nat) : Int) ≤ (r : Nat) ∧ ((r : Nat) : Int) ≤ (b.length : Nat) := by omega
        have k2 : (0 : Int) ≤ (r : Nat) := by omega
        have c1 : appOk (ofBytes out) (ofBytes (subF b p r)) 2 = true := app_ok (by have := subF_le b p r; rw [ofBytes_length, ofBytes_length]; omega)
        have c2 : appOkS (ofBytes (out ++ subF b p r)) [13, 10] 2 = true := by
          have hs := subF_le b p r
          have : ((out ++ subF b p r).length + 2) * 2 ≤ 70368744177664 := by rw [List.length_append]; omega
          simp only [appOkS, ofBytes_length, List.length_cons, List.length_nil]
          exact decide_eq_true this
        simp only [decide_eq_true k1, Bool.not_true, Bool.false_eq_true, if_false, chk_p k2, chk_p k1.2.2, chk_p k1.1, chk_p k1.2.1, Int.toNat_natCast, ofB_sub, chk_b c1, ofBytes_append]
        refine evt_opt (v := decide (r = p ∨ b.getD (r - 1) 0 ≠ 10)) ?_ ?_
        · by_cases hrp : r = p
          · subst hrp; simp
          · have g1 : (((r : Nat) : Int) == ((p : Nat) : Int)) = false := by
              have : ¬ (((r : Nat) : Int) = ((p : Nat) : Int)) := by omega
              simpa using this
            obtain ⟨z, rfl⟩ : ∃ z, r = z + 1 := ⟨r - 1, by omega⟩
            have hwz : IntKind.wrap .i64 (((z + 1 : Nat) : Int) - 1) = ((z : Nat) : Int) := by rw [wrap64 (by omega) (by omega)]; omega
            have hzl : z < b.length := by omega
            have g2 : (0 : Int) ≤ (z : Nat) := by omega
            have g3 : ((z : Nat) : Int) < ((b.length : Nat) : Int) := by omega
            have g4 : (((b[z].toNat : Nat) : Int) != (10 : Int)) = decide (b[z] ≠ 10) := by
              by_cases hc : b[z] = 10
              · rw [hc]; rfl
              · have : ¬ (((b[z].toNat : Nat) : Int) = 10) := fun e => hc (UInt8.toNat_inj.1 (show b[z].toNat = 10 by omega))
                simp [hc, this]
            simp only [g1, if_true, hwz, chk_p g2, chk_p g3, Int.toNat_natCast, getD_by hzl, getI_int, g4, hrp, false_or, Nat.add_sub_cancel, getD_at hzl]
        · have e2 : stepS b names but out (x, p, q, r) = out ++ subF b p r ++ (if r = p ∨ b.getD (r - 1) 0 ≠ 10 then [13, 10] else []) := by
            unfold stepS; rw [if_neg hin, if_pos hwi]
          by_cases hnl : r = p ∨ b.getD (r - 1) 0 ≠ 10
          · rw [e2, if_pos hnl] at hnext ⊢
            simp only [decide_eq_true hnl, if_true, chk_b c2]
            exact hnext
          · rw [e2, if_neg hnl, List.append_nil] at hnext ⊢
            simp only [decide_eq_false hnl, Bool.false_eq_true, if_false]
            exact hnext
      · have k1 : ¬ ((0 : Int) ≤ (p : Nat) ∧ ((p : Nat) : Int) ≤ (r : Nat) ∧ ((r : Nat) : Int) ≤ (b.length : Nat)) := by omega
        have e2 : stepS b names but out (x, p, q, r) = out := by unfold stepS; rw [if_neg hin, if_neg hwi]
        simp only [decide_eq_false k1, Bool.not_false, if_true]
        rw [e2] at hnext ⊢
        exact hnext
theorem ret72 (b : Bs) (hb : b.length ≤ 100000) (names : List Bs) (hn : names.length ≤ 1000000) (hv : ∀ n ∈ names, n.length ≤ 1000000) (but : Bool) (l : List Fd) (hl : l.length ≤ 100000) (hf : ∀ f ∈ l, f.1.length ≤ 1000000 ∧ f.2.2.2 ≤ 1000000) :
    Ret 72 [.lst 5 false (ofBytes b), .lst 109 false (l.map fdV), .lst 9 false (names.map V.str), .bool but] [] (.lst 5 false (ofBytes (someF b l names but)), []) := by
  refine M72 (ofBytes b) (l.map fdV) (names.map V.str) but ?_
  simp only [T72, List.length_map]
  have := loop72 b hb names hn hv but l hl hf l.length 0 [] (by omega) (by omega) (by simp)
  rw [List.drop_zero] at this
  exact this
end Go.Proofs.YtemgbdncidgoiaaDoor
end
