/- The types and the functions of the seat's program, as the plain reading asks for them. Written by mktab.py. -/
import Derived.Test.YtmhhcoccfojiiaaDoorProg
import Derived.Test.YtmhhcoccfojiiaaDoorEvB
namespace Go.Proofs.YtmhhcoccfojiiaaDoor
open Go.Ev Go.Proofs

noncomputable def tyC0 : List (Option Ty) := [
  none,
  some ⟨Tryd.t1.desc, 1, 8, false, [CSh.other], [V.raw .nilFunc], false⟩,
  some ⟨Tryd.t2.desc, 1, 8, false, [CSh.int .i64], [V.int .i64 0], true⟩,
  some ⟨Tryd.t3.desc, 1, 8, false, [CSh.int .i64], [V.int .i64 0], true⟩,
  some ⟨Tryd.t4.desc, 1, 1, false, [CSh.bool], [V.bool false], true⟩,
  some ⟨Tryd.t5.desc, 1, 1, false, [CSh.int .u8], [V.int .u8 0], true⟩,
  some ⟨Tryd.t5.desc, 1, 1, false, [CSh.int .u8], [V.int .u8 0], true⟩,
  some ⟨Tryd.t7.desc, 4, 24, true, [CSh.int .i64, CSh.int .i64, CSh.bool, CSh.int .u8], [V.int .i64 0, V.int .i64 0, V.bool false, V.int .u8 0], false⟩,
  some ⟨Tryd.t7.desc, 4, 24, true, [CSh.int .i64, CSh.int .i64, CSh.bool, CSh.int .u8], [V.int .i64 0, V.int .i64 0, V.bool false, V.int .u8 0], false⟩,
  some ⟨Tryd.t9.desc, 1, 16, false, [CSh.str], [V.str []], true⟩,
  some ⟨Tryd.t9.desc, 1, 16, false, [CSh.str], [V.str []], true⟩,
  some ⟨Tryd.t9.desc, 1, 16, false, [CSh.str], [V.str []], true⟩,
  some ⟨Tryd.t12.desc, 1, 8, false, [CSh.int .u64], [V.int .u64 0], true⟩,
  some ⟨Tryd.t13.desc, 2, 24, true, [CSh.str, CSh.int .u64], [V.str [], V.int .u64 0], false⟩,
  some ⟨Tryd.t13.desc, 2, 24, true, [CSh.str, CSh.int .u64], [V.str [], V.int .u64 0], false⟩,
  some ⟨Tryd.t15.desc, 1, 8, false, [CSh.other], [V.raw (.pointer none)], false⟩]
noncomputable def tyC1 : List (Option Ty) := [
  some ⟨Tryd.t16.desc, 1, 8, false, [CSh.other], [V.raw (.pointer none)], false⟩,
  some ⟨Tryd.t17.desc, 1, 8, false, [CSh.other], [V.raw (.pointer none)], false⟩,
  some ⟨Tryd.t18.desc, 1, 8, true, [CSh.other], [V.raw (.pointer none)], false⟩,
  some ⟨Tryd.t18.desc, 1, 8, true, [CSh.other], [V.raw (.pointer none)], false⟩,
  some ⟨Tryd.t20.desc, 1, 16, false, [CSh.other], [V.raw .nilIface], false⟩,
  some ⟨Tryd.t21.desc, 1, 4, false, [CSh.int .i32], [V.int .i32 0], true⟩,
  some ⟨Tryd.t22.desc, 1, 8, false, [CSh.other], [V.raw .nilFunc], false⟩,
  some ⟨Tryd.t23.desc, 1, 24, false, [CSh.lst 42 false], [V.lst 42 true []], false⟩,
  some ⟨Tryd.t24.desc, 3, 56, true, [CSh.str, CSh.str, CSh.lst 42 false], [V.str [], V.str [], V.lst 42 true []], false⟩,
  some ⟨Tryd.t24.desc, 3, 56, true, [CSh.str, CSh.str, CSh.lst 42 false], [V.str [], V.str [], V.lst 42 true []], false⟩,
  none,
  some ⟨Tryd.t27.desc, 1, 8, false, [CSh.other], [V.raw .nilFunc], false⟩,
  some ⟨Tryd.t28.desc, 1, 24, false, [CSh.lst 62 false], [V.lst 62 true []], false⟩,
  some ⟨Tryd.t29.desc, 3, 56, true, [CSh.str, CSh.str, CSh.lst 62 false], [V.str [], V.str [], V.lst 62 true []], false⟩,
  some ⟨Tryd.t29.desc, 3, 56, true, [CSh.str, CSh.str, CSh.lst 62 false], [V.str [], V.str [], V.lst 62 true []], false⟩,
  none]
noncomputable def tyC2 : List (Option Ty) := [
  some ⟨Tryd.t32.desc, 1, 8, false, [CSh.other], [V.raw .nilFunc], false⟩,
  none,
  some ⟨Tryd.t34.desc, 1, 8, false, [CSh.other], [V.raw .nilFunc], false⟩,
  some ⟨Tryd.t35.desc, 1, 8, false, [CSh.other], [V.raw .nilFunc], false⟩,
  some ⟨Tryd.t36.desc, 1, 8, false, [CSh.other], [V.raw .nilFunc], false⟩,
  some ⟨Tryd.t37.desc, 1, 8, false, [CSh.other], [V.raw .nilFunc], false⟩,
  some ⟨Tryd.t38.desc, 1, 8, false, [CSh.other], [V.raw .nilFunc], false⟩,
  some ⟨Tryd.t39.desc, 1, 8, false, [CSh.other], [V.raw .nilFunc], false⟩,
  some ⟨Tryd.t40.desc, 1, 8, false, [CSh.other], [V.raw .nilFunc], false⟩,
  some ⟨Tryd.t41.desc, 2, 32, true, [CSh.str, CSh.str], [V.str [], V.str []], false⟩,
  some ⟨Tryd.t41.desc, 2, 32, true, [CSh.str, CSh.str], [V.str [], V.str []], true⟩,
  some ⟨Tryd.t43.desc, 1, 8, false, [CSh.other], [V.raw .nilFunc], false⟩,
  some ⟨Tryd.t44.desc, 1, 24, false, [CSh.lst 5 false], [V.lst 5 true []], false⟩,
  some ⟨Tryd.t45.desc, 1, 8, false, [CSh.int .u64], [V.int .u64 0], true⟩,
  some ⟨Tryd.t46.desc, 1, 8, false, [CSh.other], [V.raw .nilFunc], false⟩,
  some ⟨Tryd.t47.desc, 1, 8, false, [CSh.other], [V.raw (.pointer none)], false⟩]
noncomputable def tyC3 : List (Option Ty) := [
  some ⟨Tryd.t48.desc, 1, 16, true, [CSh.str], [V.str []], false⟩,
  some ⟨Tryd.t48.desc, 1, 16, true, [CSh.str], [V.str []], true⟩,
  some ⟨Tryd.t50.desc, 1, 8, true, [CSh.other], [V.raw (.pointer none)], false⟩,
  some ⟨Tryd.t50.desc, 1, 8, true, [CSh.other], [V.raw (.pointer none)], false⟩,
  some ⟨Tryd.t52.desc, 1, 8, false, [CSh.other], [V.raw .nilFunc], false⟩,
  some ⟨Tryd.t53.desc, 1, 8, false, [CSh.other], [V.raw .nilFunc], false⟩,
  some ⟨Tryd.t54.desc, 1, 8, false, [CSh.other], [V.raw .nilFunc], false⟩,
  some ⟨Tryd.t55.desc, 1, 8, false, [CSh.other], [V.raw (.map none)], false⟩,
  none,
  some ⟨Tryd.t57.desc, 1, 8, false, [CSh.other], [V.raw .nilFunc], false⟩,
  some ⟨Tryd.t58.desc, 1, 8, false, [CSh.other], [V.raw .nilFunc], false⟩,
  none,
  some ⟨Tryd.t60.desc, 1, 8, false, [CSh.other], [V.raw .nilFunc], false⟩,
  some ⟨Tryd.t61.desc, 1, 8, false, [CSh.other], [V.raw .nilFunc], false⟩,
  some ⟨Tryd.t41.desc, 2, 32, true, [CSh.str, CSh.str], [V.str [], V.str []], true⟩,
  some ⟨Tryd.t63.desc, 1, 8, false, [CSh.other], [V.raw .nilFunc], false⟩]
noncomputable def tyC4 : List (Option Ty) := [
  some ⟨Tryd.t64.desc, 1, 8, false, [CSh.other], [V.raw .nilFunc], false⟩,
  some ⟨Tryd.t65.desc, 1, 8, false, [CSh.other], [V.raw .nilFunc], false⟩,
  some ⟨Tryd.t66.desc, 1, 8, false, [CSh.other], [V.raw .nilFunc], false⟩,
  some ⟨Tryd.t67.desc, 1, 8, false, [CSh.other], [V.raw .nilFunc], false⟩,
  some ⟨Tryd.t68.desc, 1, 8, false, [CSh.other], [V.raw .nilFunc], false⟩,
  some ⟨Tryd.t69.desc, 1, 8, false, [CSh.other], [V.raw .nilFunc], false⟩,
  some ⟨Tryd.t70.desc, 1, 8, false, [CSh.other], [V.raw .nilFunc], false⟩,
  some ⟨Tryd.t71.desc, 1, 8, false, [CSh.other], [V.raw .nilFunc], false⟩,
  some ⟨Tryd.t72.desc, 1, 8, false, [CSh.other], [V.raw .nilFunc], false⟩,
  none,
  some ⟨Tryd.t74.desc, 1, 8, false, [CSh.other], [V.raw .nilFunc], false⟩,
  some ⟨Tryd.t75.desc, 1, 24, false, [CSh.lst 9 false], [V.lst 9 true []], false⟩,
  some ⟨Tryd.t76.desc, 1, 8, false, [CSh.other], [V.raw .nilFunc], false⟩,
  some ⟨Tryd.t77.desc, 1, 8, false, [CSh.other], [V.raw .nilFunc], false⟩,
  some ⟨Tryd.t78.desc, 1, 8, false, [CSh.other], [V.raw .nilFunc], false⟩,
  some ⟨Tryd.t79.desc, 1, 8, false, [CSh.int .u64], [V.int .u64 0], true⟩]
noncomputable def tyC5 : List (Option Ty) := [
  some ⟨Tryd.t80.desc, 1, 8, false, [CSh.other], [V.raw .nilFunc], false⟩,
  some ⟨Tryd.t81.desc, 1, 8, false, [CSh.other], [V.raw .nilFunc], false⟩,
  some ⟨Tryd.t82.desc, 1, 8, false, [CSh.other], [V.raw .nilFunc], false⟩,
  some ⟨Tryd.t83.desc, 1, 4, false, [CSh.int .u32], [V.int .u32 0], true⟩,
  none,
  some ⟨Tryd.t85.desc, 1, 8, false, [CSh.other], [V.raw .nilFunc], false⟩,
  some ⟨Tryd.t86.desc, 1, 8, false, [CSh.other], [V.raw .nilFunc], false⟩,
  some ⟨Tryd.t87.desc, 1, 8, false, [CSh.other], [V.raw .nilFunc], false⟩,
  none,
  some ⟨Tryd.t89.desc, 1, 8, false, [CSh.other], [V.raw .nilFunc], false⟩,
  some ⟨Tryd.t90.desc, 256, 256, true, [CSh.int .u8, CSh.int .u8, CSh.int .u8, CSh.int .u8, CSh.int .u8, CSh.int .u8, CSh.int .u8, CSh.int .u8, CSh.int .u8, CSh.int .u8, CSh.int .u8, CSh.int .u8, CSh.int .u8, CSh.int .u8, CSh.int .u8, CSh.int .u8, CSh.int .u8, CSh.int .u8, CSh.int .u8, CSh.int .u8, CSh.int .u8, CSh.int .u8, CSh.int .u8, CSh.int .u8, CSh.int .u8, CSh.int .u8, CSh.int .u8, CSh.int .u8, CSh.int .u8, CSh.int .u8, CSh.int .u8, CSh.int .u8, CSh.int .u8, CSh.int .u8, CSh.int .u8, CSh.int .u8, CSh.int .u8, CSh.int .u8, CSh.int .u8, CSh.int .u8, CSh.int .u8, CSh.int .u8, CSh.int .u8, CSh.int .u8, CSh.int .u8, CSh.int .u8, CSh.int .u8, CSh.int .u8, CSh.int .u8, CSh.int .u8, CSh.int .u8, CSh.int .u8, CSh.int .u8, CSh.int .u8, CSh.int .u8, CSh.int .u8, CSh.int .u8, CSh.int .u8, CSh.int .u8, CSh.int .u8, CSh.int .u8, CSh.int .u8, CSh.int .u8, CSh.int .u8, CSh.int .u8, CSh.int .u8, CSh.int .u8, CSh.int .u8, CSh.int .u8, CSh.int .u8, CSh.int .u8, CSh.int .u8, CSh.int .u8, CSh.int .u8, CSh.int .u8, CSh.int .u8, CSh.int .u8, CSh.int .u8, CSh.int .u8, CSh.int .u8, CSh.int .u8, CSh.int .u8, CSh.int .u8, CSh.int .u8, CSh.int .u8, CSh.int .u8, CSh.int .u8, CSh.int .u8, CSh.int .u8, CSh.int .u8, CSh.int .u8, CSh.int .u8, CSh.int .u8, CSh.int .u8, CSh.int .u8, CSh.int .u8, CSh.int .u8, CSh.int .u8, CSh.int .u8, CSh.int .u8, CSh.int .u8, CSh.int .u8, CSh.int .u8, CSh.int .u8, CSh.int .u8, CSh.int .u8, CSh.int .u8, CSh.int .u8, CSh.int .u8, CSh.int .u8, CSh.int .u8, CSh.int .u8, CSh.int .u8, CSh.int .u8, CSh.int .u8, CSh.int .u8, CSh.int .u8, CSh.int .u8, CSh.int .u8, CSh.int .u8, CSh.int .u8, CSh.int .u8, CSh.int .u8, CSh.int .u8, CSh.int .u8, CSh.int .u8, CSh.int .u8, CSh.int .u8, CSh.int .u8, CSh.int .u8, CSh.int .u8, CSh.int .u8, CSh.int .u8, CSh.int .u8, CSh.int .u8, CSh.int .u8, CSh.int .u8, CSh.int .u8, CSh.int .u8, CSh.int .u8, CSh.int .u8, CSh.int .u8, CSh.int .u8, CSh.int .u8, CSh.int .u8, CSh.int .u8, CSh.int .u8, CSh.int .u8, CSh.int .u8, CSh.int .u8, CSh.int .u8, CSh.int .u8, CSh.int .u8, CSh.int .u8, CSh.int .u8, CSh.int .u8, CSh.int .u8, CSh.int .u8, CSh.int .u8, CSh.int .u8, CSh.int .u8, CSh.int .u8, CSh.int .u8, CSh.int .u8, CSh.int .u8, CSh.int .u8, CSh.int .u8, CSh.int .u8, CSh.int .u8, CSh.int .u8, CSh.int .u8, CSh.int .u8, CSh.int .u8, CSh.int .u8, CSh.int .u8, CSh.int .u8, CSh.int .u8, CSh.int .u8, CSh.int .u8, CSh.int .u8, CSh.int .u8, CSh.int .u8, CSh.int .u8, CSh.int .u8, CSh.int .u8, CSh.int .u8, CSh.int .u8, CSh.int .u8, CSh.int .u8, CSh.int .u8, CSh.int .u8, CSh.int .u8, CSh.int .u8, CSh.int .u8, CSh.int .u8, CSh.int .u8, CSh.int .u8, CSh.int .u8, CSh.int .u8, CSh.int .u8, CSh.int .u8, CSh.int .u8, CSh.int .u8, CSh.int .u8, CSh.int .u8, CSh.int .u8, CSh.int .u8, CSh.int .u8, CSh.int .u8, CSh.int .u8, CSh.int .u8, CSh.int .u8, CSh.int .u8, CSh.int .u8, CSh.int .u8, CSh.int .u8, CSh.int .u8, CSh.int .u8, CSh.int .u8, CSh.int .u8, CSh.int .u8, CSh.int .u8, CSh.int .u8, CSh.int .u8, CSh.int .u8, CSh.int .u8, CSh.int .u8, CSh.int .u8, CSh.int .u8, CSh.int .u8, CSh.int .u8, CSh.int .u8, CSh.int .u8, CSh.int .u8, CSh.int .u8, CSh.int .u8, CSh.int .u8, CSh.int .u8, CSh.int .u8, CSh.int .u8, CSh.int .u8, CSh.int .u8, CSh.int .u8, CSh.int .u8, CSh.int .u8, CSh.int .u8, CSh.int .u8, CSh.int .u8, CSh.int .u8, CSh.int .u8, CSh.int .u8, CSh.int .u8, CSh.int .u8, CSh.int .u8, CSh.int .u8, CSh.int .u8], [V.int .u8 0, V.int .u8 0, V.int .u8 0, V.int .u8 0, V.int .u8 0, V.int .u8 0, V.int .u8 0, V.int .u8 0, V.int .u8 0, V.int .u8 0, V.int .u8 0, V.int .u8 0, V.int .u8 0, V.int .u8 0, V.int .u8 0, V.int .u8 0, V.int .u8 0, V.int .u8 0, V.int .u8 0, V.int .u8 0, V.int .u8 0, V.int .u8 0, V.int .u8 0, V.int .u8 0, V.int .u8 0, V.int .u8 0, V.int .u8 0, V.int .u8 0, V.int .u8 0, V.int .u8 0, V.int .u8 0, V.int .u8 0, V.int .u8 0, V.int .u8 0, V.int .u8 0, V.int .u8 0, V.int .u8 0, V.int .u8 0, V.int .u8 0, V.int .u8 0, V.int .u8 0, V.int .u8 0, V.int .u8 0, V.int .u8 0, V.int .u8 0, V.int .u8 0, V.int .u8 0, V.int .u8 0, V.int .u8 0, V.int .u8 0, V.int .u8 0, V.int .u8 0, V.int .u8 0, V.int .u8 0, V.int .u8 0, V.int .u8 0, V.int .u8 0, V.int .u8 0, V.int .u8 0, V.int .u8 0, V.int .u8 0, V.int .u8 0, V.int .u8 0, V.int .u8 0, V.int .u8 0, V.int .u8 0, V.int .u8 0, V.int .u8 0, V.int .u8 0, V.int .u8 0, V.int .u8 0, V.int .u8 0, V.int .u8 0, V.int .u8 0, V.int .u8 0, V.int .u8 0, V.int .u8 0, V.int .u8 0, V.int .u8 0, V.int .u8 0, V.int .u8 0, V.int .u8 0, V.int .u8 0, V.int .u8 0, V.int .u8 0, V.int .u8 0, V.int .u8 0, V.int .u8 0, V.int .u8 0, V.int .u8 0, V.int .u8 0, V.int .u8 0, V.int .u8 0, V.int .u8 0, V.int .u8 0, V.int .u8 0, V.int .u8 0, V.int .u8 0, V.int .u8 0, V.int .u8 0, V.int .u8 0, V.int .u8 0, V.int .u8 0, V.int .u8 0, V.int .u8 0, V.int .u8 0, V.int .u8 0, V.int .u8 0, V.int .u8 0, V.int .u8 0, V.int .u8 0, V.int .u8 0, V.int .u8 0, V.int .u8 0, V.int .u8 0, V.int .u8 0, V.int .u8 0, V.int .u8 0, V.int .u8 0, V.int .u8 0, V.int .u8 0, V.int .u8 0, V.int .u8 0, V.int .u8 0, V.int .u8 0, V.int .u8 0, V.int .u8 0, V.int .u8 0, V.int .u8 0, V.int .u8 0, V.int .u8 0, V.int .u8 0, V.int .u8 0, V.int .u8 0, V.int .u8 0, V.int .u8 0, V.int .u8 0, V.int .u8 0, V.int .u8 0, V.int .u8 0, V.int .u8 0, V.int .u8 0, V.int .u8 0, V.int .u8 0, V.int .u8 0, V.int .u8 0, V.int .u8 0, V.int .u8 0, V.int .u8 0, V.int .u8 0, V.int .u8 0, V.int .u8 0, V.int .u8 0, V.int .u8 0, V.int .u8 0, V.int .u8 0, V.int .u8 0, V.int .u8 0, V.int .u8 0, V.int .u8 0, V.int .u8 0, V.int .u8 0, V.int .u8 0, V.int .u8 0, V.int .u8 0, V.int .u8 0, V.int .u8 0, V.int .u8 0, V.int .u8 0, V.int .u8 0, V.int .u8 0, V.int .u8 0, V.int .u8 0, V.int .u8 0, V.int .u8 0, V.int .u8 0, V.int .u8 0, V.int .u8 0, V.int .u8 0, V.int .u8 0, V.int .u8 0, V.int .u8 0, V.int .u8 0, V.int .u8 0, V.int .u8 0, V.int .u8 0, V.int .u8 0, V.int .u8 0, V.int .u8 0, V.int .u8 0, V.int .u8 0, V.int .u8 0, V.int .u8 0, V.int .u8 0, V.int .u8 0, V.int .u8 0, V.int .u8 0, V.int .u8 0, V.int .u8 0, V.int .u8 0, V.int .u8 0, V.int .u8 0, V.int .u8 0, V.int .u8 0, V.int .u8 0, V.int .u8 0, V.int .u8 0, V.int .u8 0, V.int .u8 0, V.int .u8 0, V.int .u8 0, V.int .u8 0, V.int .u8 0, V.int .u8 0, V.int .u8 0, V.int .u8 0, V.int .u8 0, V.int .u8 0, V.int .u8 0, V.int .u8 0, V.int .u8 0, V.int .u8 0, V.int .u8 0, V.int .u8 0, V.int .u8 0, V.int .u8 0, V.int .u8 0, V.int .u8 0, V.int .u8 0, V.int .u8 0, V.int .u8 0, V.int .u8 0, V.int .u8 0, V.int .u8 0, V.int .u8 0, V.int .u8 0, V.int .u8 0, V.int .u8 0, V.int .u8 0, V.int .u8 0, V.int .u8 0, V.int .u8 0, V.int .u8 0, V.int .u8 0, V.int .u8 0, V.int .u8 0, V.int .u8 0, V.int .u8 0, V.int .u8 0, V.int .u8 0, V.int .u8 0, V.int .u8 0, V.int .u8 0, V.int .u8 0, V.int .u8 0, V.int .u8 0], false⟩,
  some ⟨Tryd.t91.desc, 2, 2, true, [CSh.int .u8, CSh.int .u8], [V.int .u8 0, V.int .u8 0], false⟩,
  some ⟨Tryd.t91.desc, 2, 2, true, [CSh.int .u8, CSh.int .u8], [V.int .u8 0, V.int .u8 0], false⟩,
  some ⟨Tryd.t93.desc, 32, 32, true, [CSh.int .u8, CSh.int .u8, CSh.int .u8, CSh.int .u8, CSh.int .u8, CSh.int .u8, CSh.int .u8, CSh.int .u8, CSh.int .u8, CSh.int .u8, CSh.int .u8, CSh.int .u8, CSh.int .u8, CSh.int .u8, CSh.int .u8, CSh.int .u8, CSh.int .u8, CSh.int .u8, CSh.int .u8, CSh.int .u8, CSh.int .u8, CSh.int .u8, CSh.int .u8, CSh.int .u8, CSh.int .u8, CSh.int .u8, CSh.int .u8, CSh.int .u8, CSh.int .u8, CSh.int .u8, CSh.int .u8, CSh.int .u8], [V.int .u8 0, V.int .u8 0, V.int .u8 0, V.int .u8 0, V.int .u8 0, V.int .u8 0, V.int .u8 0, V.int .u8 0, V.int .u8 0, V.int .u8 0, V.int .u8 0, V.int .u8 0, V.int .u8 0, V.int .u8 0, V.int .u8 0, V.int .u8 0, V.int .u8 0, V.int .u8 0, V.int .u8 0, V.int .u8 0, V.int .u8 0, V.int .u8 0, V.int .u8 0, V.int .u8 0, V.int .u8 0, V.int .u8 0, V.int .u8 0, V.int .u8 0, V.int .u8 0, V.int .u8 0, V.int .u8 0, V.int .u8 0], false⟩,
  some ⟨Tryd.t94.desc, 4, 40, true, [CSh.other, CSh.other, CSh.other, CSh.str], [V.raw (.pointer none), V.raw (.pointer none), V.raw (.pointer none), V.str []], false⟩,
  some ⟨Tryd.t94.desc, 4, 40, true, [CSh.other, CSh.other, CSh.other, CSh.str], [V.raw (.pointer none), V.raw (.pointer none), V.raw (.pointer none), V.str []], false⟩]
noncomputable def tyC6 : List (Option Ty) := [
  some ⟨Tryd.t96.desc, 0, 0, true, [], [], false⟩,
  some ⟨Tryd.t97.desc, 0, 0, true, [], [], false⟩,
  some ⟨Tryd.t97.desc, 0, 0, true, [], [], false⟩,
  some ⟨Tryd.t5.desc, 1, 1, false, [CSh.int .u8], [V.int .u8 0], true⟩,
  some ⟨Tryd.t5.desc, 1, 1, false, [CSh.int .u8], [V.int .u8 0], true⟩,
  some ⟨Tryd.t101.desc, 1, 8, false, [CSh.other], [V.raw .nilFunc], false⟩,
  some ⟨Tryd.t102.desc, 1, 8, false, [CSh.other], [V.raw (.pointer none)], false⟩,
  some ⟨Tryd.t21.desc, 1, 4, false, [CSh.int .i32], [V.int .i32 0], true⟩,
  some ⟨Tryd.t21.desc, 1, 4, false, [CSh.int .i32], [V.int .i32 0], true⟩,
  some ⟨Tryd.t105.desc, 11, 48, true, [CSh.int .u64, CSh.int .u64, CSh.int .u32, CSh.int .u8, CSh.int .u8, CSh.int .u8, CSh.int .u8, CSh.other, CSh.other, CSh.int .i32, CSh.int .i32], [V.int .u64 0, V.int .u64 0, V.int .u32 0, V.int .u8 0, V.int .u8 0, V.int .u8 0, V.int .u8 0, V.raw .nilFunc, V.raw (.pointer none), V.int .i32 0, V.int .i32 0], false⟩,
  some ⟨Tryd.t105.desc, 11, 48, true, [CSh.int .u64, CSh.int .u64, CSh.int .u32, CSh.int .u8, CSh.int .u8, CSh.int .u8, CSh.int .u8, CSh.other, CSh.other, CSh.int .i32, CSh.int .i32], [V.int .u64 0, V.int .u64 0, V.int .u32 0, V.int .u8 0, V.int .u8 0, V.int .u8 0, V.int .u8 0, V.raw .nilFunc, V.raw (.pointer none), V.int .i32 0, V.int .i32 0], false⟩,
  some ⟨Tryd.t107.desc, 1, 8, false, [CSh.other], [V.raw (.pointer none)], false⟩]
noncomputable def tyCs : List (List (Option Ty)) := [tyC0, tyC1, tyC2, tyC3, tyC4, tyC5, tyC6]
noncomputable def tyT (t : TypeId) : Option Ty := ((tyCs.getD (t / 16) []).getD (t % 16) none)
noncomputable def fnC0 : List (Option Func) := [none, none, some Tryd.f2, some Tryd.f3, some Tryd.f4, some Tryd.f5, some Tryd.f6, some Tryd.f7, some Tryd.f8, some Tryd.f9, some Tryd.f10, some Tryd.f11, some Tryd.f12, some Tryd.f13, some Tryd.f14, some Tryd.f15]
noncomputable def fnC1 : List (Option Func) := [some Tryd.f16, some Tryd.f17, some Tryd.f18, some Tryd.f19, some Tryd.f20, some Tryd.f21, some Tryd.f22, some Tryd.f23, some Tryd.f24, some Tryd.f25, some Tryd.f26, some Tryd.f27, some Tryd.f28, some Tryd.f29, some Tryd.f30, some Tryd.f31]
noncomputable def fnC2 : List (Option Func) := [some Tryd.f32, some Tryd.f33, some Tryd.f34, some Tryd.f35, some Tryd.f36, some Tryd.f37, some Tryd.f38, some Tryd.f39, some Tryd.f40, some Tryd.f41, some Tryd.f42, some Tryd.f43, some Tryd.f44, some Tryd.f45, some Tryd.f46, some Tryd.f47]
noncomputable def fnC3 : List (Option Func) := [some Tryd.f48, some Tryd.f49, some Tryd.f50, some Tryd.f51, some Tryd.f52, some Tryd.f53, some Tryd.f54, some Tryd.f55, some Tryd.f56, some Tryd.f57, some Tryd.f58, none, some Tryd.f60, some Tryd.f61, some Tryd.f62, none]
noncomputable def fnC4 : List (Option Func) := [some Tryd.f64, some Tryd.f65, some Tryd.f66, some Tryd.f67, some Tryd.f68, some Tryd.f69, none, some Tryd.f71, none, none, none, none, none, none, none, none]
noncomputable def fnC5 : List (Option Func) := [none, none, none, none, none, none, none, none, none, none, none, none, none]
noncomputable def fnCs : List (List (Option Func)) := [fnC0, fnC1, fnC2, fnC3, fnC4, fnC5]
noncomputable def fnT (f : FuncId) : Option Func := ((fnCs.getD (f / 16) []).getD (f % 16) none)
end Go.Proofs.YtmhhcoccfojiiaaDoor
