/- That the tables of types and functions are the program's. Written by mktab.py. -/
import Derived.Test.YtmhhcoccfojiiaaDoorTab
import Derived.Test.YtmhhcoccfojiiaaDoorEvV
import Derived.KernelRfl
namespace Go.Proofs.YtmhhcoccfojiiaaDoor
open Go.Ev Go.Proofs

/-- The seat's configuration, with hand contracts. -/
noncomputable def cfgOf (hand : FuncId → Option Fun) (wants : FuncId → Nat → Bool) (rtip ro pur : FuncId → Bool) : Cfg := ⟨Tryd.prog, tyT, fnT, hand, fun _ => false, wants, rtip, ro, pur⟩
section
variable (hand : FuncId → Option Fun) (wants : FuncId → Nat → Bool) (rtip ro pur : FuncId → Bool)
theorem tyU1 : Tryd.prog.underlying 1 = some Tryd.t1.desc := by kernel_rfl
theorem tyK1 : chkTy (cfgOf hand wants rtip ro pur) 1 ⟨Tryd.t1.desc, 1, 8, false, [CSh.other], [V.raw .nilFunc], false⟩ = true := by kernel_rfl
theorem tyU2 : Tryd.prog.underlying 2 = some Tryd.t2.desc := by kernel_rfl
theorem tyK2 : chkTy (cfgOf hand wants rtip ro pur) 2 ⟨Tryd.t2.desc, 1, 8, false, [CSh.int .i64], [V.int .i64 0], true⟩ = true := by kernel_rfl
theorem tyU3 : Tryd.prog.underlying 3 = some Tryd.t3.desc := by kernel_rfl
theorem tyK3 : chkTy (cfgOf hand wants rtip ro pur) 3 ⟨Tryd.t3.desc, 1, 8, false, [CSh.int .i64], [V.int .i64 0], true⟩ = true := by kernel_rfl
theorem tyU4 : Tryd.prog.underlying 4 = some Tryd.t4.desc := by kernel_rfl
theorem tyK4 : chkTy (cfgOf hand wants rtip ro pur) 4 ⟨Tryd.t4.desc, 1, 1, false, [CSh.bool], [V.bool false], true⟩ = true := by kernel_rfl
theorem tyU5 : Tryd.prog.underlying 5 = some Tryd.t5.desc := by kernel_rfl
theorem tyK5 : chkTy (cfgOf hand wants rtip ro pur) 5 ⟨Tryd.t5.desc, 1, 1, false, [CSh.int .u8], [V.int .u8 0], true⟩ = true := by kernel_rfl
theorem tyU6 : Tryd.prog.underlying 6 = some Tryd.t5.desc := by kernel_rfl
theorem tyK6 : chkTy (cfgOf hand wants rtip ro pur) 6 ⟨Tryd.t5.desc, 1, 1, false, [CSh.int .u8], [V.int .u8 0], true⟩ = true := by kernel_rfl
theorem tyU7 : Tryd.prog.underlying 7 = some Tryd.t7.desc := by kernel_rfl
theorem tyK7 : chkTy (cfgOf hand wants rtip ro pur) 7 ⟨Tryd.t7.desc, 4, 24, true, [CSh.int .i64, CSh.int .i64, CSh.bool, CSh.int .u8], [V.int .i64 0, V.int .i64 0, V.bool false, V.int .u8 0], false⟩ = true := by kernel_rfl
theorem tyU8 : Tryd.prog.underlying 8 = some Tryd.t7.desc := by kernel_rfl
theorem tyK8 : chkTy (cfgOf hand wants rtip ro pur) 8 ⟨Tryd.t7.desc, 4, 24, true, [CSh.int .i64, CSh.int .i64, CSh.bool, CSh.int .u8], [V.int .i64 0, V.int .i64 0, V.bool false, V.int .u8 0], false⟩ = true := by kernel_rfl
theorem tyU9 : Tryd.prog.underlying 9 = some Tryd.t9.desc := by kernel_rfl
theorem tyK9 : chkTy (cfgOf hand wants rtip ro pur) 9 ⟨Tryd.t9.desc, 1, 16, false, [CSh.str], [V.str []], true⟩ = true := by kernel_rfl
theorem tyU10 : Tryd.prog.underlying 10 = some Tryd.t9.desc := by kernel_rfl
theorem tyK10 : chkTy (cfgOf hand wants rtip ro pur) 10 ⟨Tryd.t9.desc, 1, 16, false, [CSh.str], [V.str []], true⟩ = true := by kernel_rfl
theorem tyU11 : Tryd.prog.underlying 11 = some Tryd.t9.desc := by kernel_rfl
theorem tyK11 : chkTy (cfgOf hand wants rtip ro pur) 11 ⟨Tryd.t9.desc, 1, 16, false, [CSh.str], [V.str []], true⟩ = true := by kernel_rfl
theorem tyU12 : Tryd.prog.underlying 12 = some Tryd.t12.desc := by kernel_rfl
theorem tyK12 : chkTy (cfgOf hand wants rtip ro pur) 12 ⟨Tryd.t12.desc, 1, 8, false, [CSh.int .u64], [V.int .u64 0], true⟩ = true := by kernel_rfl
theorem tyU13 : Tryd.prog.underlying 13 = some Tryd.t13.desc := by kernel_rfl
theorem tyK13 : chkTy (cfgOf hand wants rtip ro pur) 13 ⟨Tryd.t13.desc, 2, 24, true, [CSh.str, CSh.int .u64], [V.str [], V.int .u64 0], false⟩ = true := by kernel_rfl
theorem tyU14 : Tryd.prog.underlying 14 = some Tryd.t13.desc := by kernel_rfl
theorem tyK14 : chkTy (cfgOf hand wants rtip ro pur) 14 ⟨Tryd.t13.desc, 2, 24, true, [CSh.str, CSh.int .u64], [V.str [], V.int .u64 0], false⟩ = true := by kernel_rfl
theorem tyU15 : Tryd.prog.underlying 15 = some Tryd.t15.desc := by kernel_rfl
theorem tyK15 : chkTy (cfgOf hand wants rtip ro pur) 15 ⟨Tryd.t15.desc, 1, 8, false, [CSh.other], [V.raw (.pointer none)], false⟩ = true := by kernel_rfl
theorem tyU16 : Tryd.prog.underlying 16 = some Tryd.t16.desc := by kernel_rfl
theorem tyK16 : chkTy (cfgOf hand wants rtip ro pur) 16 ⟨Tryd.t16.desc, 1, 8, false, [CSh.other], [V.raw (.pointer none)], false⟩ = true := by kernel_rfl
theorem tyU17 : Tryd.prog.underlying 17 = some Tryd.t17.desc := by kernel_rfl
theorem tyK17 : chkTy (cfgOf hand wants rtip ro pur) 17 ⟨Tryd.t17.desc, 1, 8, false, [CSh.other], [V.raw (.pointer none)], false⟩ = true := by kernel_rfl
theorem tyU18 : Tryd.prog.underlying 18 = some Tryd.t18.desc := by kernel_rfl
theorem tyK18 : chkTy (cfgOf hand wants rtip ro pur) 18 ⟨Tryd.t18.desc, 1, 8, true, [CSh.other], [V.raw (.pointer none)], false⟩ = true := by kernel_rfl
theorem tyU19 : Tryd.prog.underlying 19 = some Tryd.t18.desc := by kernel_rfl
theorem tyK19 : chkTy (cfgOf hand wants rtip ro pur) 19 ⟨Tryd.t18.desc, 1, 8, true, [CSh.other], [V.raw (.pointer none)], false⟩ = true := by kernel_rfl
theorem tyU20 : Tryd.prog.underlying 20 = some Tryd.t20.desc := by kernel_rfl
theorem tyK20 : chkTy (cfgOf hand wants rtip ro pur) 20 ⟨Tryd.t20.desc, 1, 16, false, [CSh.other], [V.raw .nilIface], false⟩ = true := by kernel_rfl
theorem tyU21 : Tryd.prog.underlying 21 = some Tryd.t21.desc := by kernel_rfl
theorem tyK21 : chkTy (cfgOf hand wants rtip ro pur) 21 ⟨Tryd.t21.desc, 1, 4, false, [CSh.int .i32], [V.int .i32 0], true⟩ = true := by kernel_rfl
theorem tyU22 : Tryd.prog.underlying 22 = some Tryd.t22.desc := by kernel_rfl
theorem tyK22 : chkTy (cfgOf hand wants rtip ro pur) 22 ⟨Tryd.t22.desc, 1, 8, false, [CSh.other], [V.raw .nilFunc], false⟩ = true := by kernel_rfl
theorem tyU23 : Tryd.prog.underlying 23 = some Tryd.t23.desc := by kernel_rfl
theorem tyK23 : chkTy (cfgOf hand wants rtip ro pur) 23 ⟨Tryd.t23.desc, 1, 24, false, [CSh.lst 42 false], [V.lst 42 true []], false⟩ = true := by kernel_rfl
theorem tyU24 : Tryd.prog.underlying 24 = some Tryd.t24.desc := by kernel_rfl
theorem tyK24 : chkTy (cfgOf hand wants rtip ro pur) 24 ⟨Tryd.t24.desc, 3, 56, true, [CSh.str, CSh.str, CSh.lst 42 false], [V.str [], V.str [], V.lst 42 true []], false⟩ = true := by kernel_rfl
theorem tyU25 : Tryd.prog.underlying 25 = some Tryd.t24.desc := by kernel_rfl
theorem tyK25 : chkTy (cfgOf hand wants rtip ro pur) 25 ⟨Tryd.t24.desc, 3, 56, true, [CSh.str, CSh.str, CSh.lst 42 false], [V.str [], V.str [], V.lst 42 true []], false⟩ = true := by kernel_rfl
theorem tyU27 : Tryd.prog.underlying 27 = some Tryd.t27.desc := by kernel_rfl
theorem tyK27 : chkTy (cfgOf hand wants rtip ro pur) 27 ⟨Tryd.t27.desc, 1, 8, false, [CSh.other], [V.raw .nilFunc], false⟩ = true := by kernel_rfl
theorem tyU28 : Tryd.prog.underlying 28 = some Tryd.t28.desc := by kernel_rfl
theorem tyK28 : chkTy (cfgOf hand wants rtip ro pur) 28 ⟨Tryd.t28.desc, 1, 24, false, [CSh.lst 62 false], [V.lst 62 true []], false⟩ = true := by kernel_rfl
theorem tyU29 : Tryd.prog.underlying 29 = some Tryd.t29.desc := by kernel_rfl
theorem tyK29 : chkTy (cfgOf hand wants rtip ro pur) 29 ⟨Tryd.t29.desc, 3, 56, true, [CSh.str, CSh.str, CSh.lst 62 false], [V.str [], V.str [], V.lst 62 true []], false⟩ = true := by kernel_rfl
theorem tyU30 : Tryd.prog.underlying 30 = some Tryd.t29.desc := by kernel_rfl
theorem tyK30 : chkTy (cfgOf hand wants rtip ro pur) 30 ⟨Tryd.t29.desc, 3, 56, true, [CSh.str, CSh.str, CSh.lst 62 false], [V.str [], V.str [], V.lst 62 true []], false⟩ = true := by kernel_rfl
theorem tyU32 : Tryd.prog.underlying 32 = some Tryd.t32.desc := by kernel_rfl
theorem tyK32 : chkTy (cfgOf hand wants rtip ro pur) 32 ⟨Tryd.t32.desc, 1, 8, false, [CSh.other], [V.raw .nilFunc], false⟩ = true := by kernel_rfl
theorem tyU34 : Tryd.prog.underlying 34 = some Tryd.t34.desc := by kernel_rfl
theorem tyK34 : chkTy (cfgOf hand wants rtip ro pur) 34 ⟨Tryd.t34.desc, 1, 8, false, [CSh.other], [V.raw .nilFunc], false⟩ = true := by kernel_rfl
theorem tyU35 : Tryd.prog.underlying 35 = some Tryd.t35.desc := by kernel_rfl
theorem tyK35 : chkTy (cfgOf hand wants rtip ro pur) 35 ⟨Tryd.t35.desc, 1, 8, false, [CSh.other], [V.raw .nilFunc], false⟩ = true := by kernel_rfl
theorem tyU36 : Tryd.prog.underlying 36 = some Tryd.t36.desc := by kernel_rfl
theorem tyK36 : chkTy (cfgOf hand wants rtip ro pur) 36 ⟨Tryd.t36.desc, 1, 8, false, [CSh.other], [V.raw .nilFunc], false⟩ = true := by kernel_rfl
theorem tyU37 : Tryd.prog.underlying 37 = some Tryd.t37.desc := by kernel_rfl
theorem tyK37 : chkTy (cfgOf hand wants rtip ro pur) 37 ⟨Tryd.t37.desc, 1, 8, false, [CSh.other], [V.raw .nilFunc], false⟩ = true := by kernel_rfl
theorem tyU38 : Tryd.prog.underlying 38 = some Tryd.t38.desc := by kernel_rfl
theorem tyK38 : chkTy (cfgOf hand wants rtip ro pur) 38 ⟨Tryd.t38.desc, 1, 8, false, [CSh.other], [V.raw .nilFunc], false⟩ = true := by kernel_rfl
theorem tyU39 : Tryd.prog.underlying 39 = some Tryd.t39.desc := by kernel_rfl
theorem tyK39 : chkTy (cfgOf hand wants rtip ro pur) 39 ⟨Tryd.t39.desc, 1, 8, false, [CSh.other], [V.raw .nilFunc], false⟩ = true := by kernel_rfl
theorem tyU40 : Tryd.prog.underlying 40 = some Tryd.t40.desc := by kernel_rfl
theorem tyK40 : chkTy (cfgOf hand wants rtip ro pur) 40 ⟨Tryd.t40.desc, 1, 8, false, [CSh.other], [V.raw .nilFunc], false⟩ = true := by kernel_rfl
theorem tyU41 : Tryd.prog.underlying 41 = some Tryd.t41.desc := by kernel_rfl
theorem tyK41 : chkTy (cfgOf hand wants rtip ro pur) 41 ⟨Tryd.t41.desc, 2, 32, true, [CSh.str, CSh.str], [V.str [], V.str []], false⟩ = true := by kernel_rfl
theorem tyU42 : Tryd.prog.underlying 42 = some Tryd.t41.desc := by kernel_rfl
theorem tyK42 : chkTy (cfgOf hand wants rtip ro pur) 42 ⟨Tryd.t41.desc, 2, 32, true, [CSh.str, CSh.str], [V.str [], V.str []], true⟩ = true := by kernel_rfl
theorem tyU43 : Tryd.prog.underlying 43 = some Tryd.t43.desc := by kernel_rfl
theorem tyK43 : chkTy (cfgOf hand wants rtip ro pur) 43 ⟨Tryd.t43.desc, 1, 8, false, [CSh.other], [V.raw .nilFunc], false⟩ = true := by kernel_rfl
theorem tyU44 : Tryd.prog.underlying 44 = some Tryd.t44.desc := by kernel_rfl
theorem tyK44 : chkTy (cfgOf hand wants rtip ro pur) 44 ⟨Tryd.t44.desc, 1, 24, false, [CSh.lst 5 false], [V.lst 5 true []], false⟩ = true := by kernel_rfl
theorem tyU45 : Tryd.prog.underlying 45 = some Tryd.t45.desc := by kernel_rfl
theorem tyK45 : chkTy (cfgOf hand wants rtip ro pur) 45 ⟨Tryd.t45.desc, 1, 8, false, [CSh.int .u64], [V.int .u64 0], true⟩ = true := by kernel_rfl
theorem tyU46 : Tryd.prog.underlying 46 = some Tryd.t46.desc := by kernel_rfl
theorem tyK46 : chkTy (cfgOf hand wants rtip ro pur) 46 ⟨Tryd.t46.desc, 1, 8, false, [CSh.other], [V.raw .nilFunc], false⟩ = true := by kernel_rfl
theorem tyU47 : Tryd.prog.underlying 47 = some Tryd.t47.desc := by kernel_rfl
theorem tyK47 : chkTy (cfgOf hand wants rtip ro pur) 47 ⟨Tryd.t47.desc, 1, 8, false, [CSh.other], [V.raw (.pointer none)], false⟩ = true := by kernel_rfl
theorem tyU48 : Tryd.prog.underlying 48 = some Tryd.t48.desc := by kernel_rfl
theorem tyK48 : chkTy (cfgOf hand wants rtip ro pur) 48 ⟨Tryd.t48.desc, 1, 16, true, [CSh.str], [V.str []], false⟩ = true := by kernel_rfl
theorem tyU49 : Tryd.prog.underlying 49 = some Tryd.t48.desc := by kernel_rfl
theorem tyK49 : chkTy (cfgOf hand wants rtip ro pur) 49 ⟨Tryd.t48.desc, 1, 16, true, [CSh.str], [V.str []], true⟩ = true := by kernel_rfl
theorem tyU50 : Tryd.prog.underlying 50 = some Tryd.t50.desc := by kernel_rfl
theorem tyK50 : chkTy (cfgOf hand wants rtip ro pur) 50 ⟨Tryd.t50.desc, 1, 8, true, [CSh.other], [V.raw (.pointer none)], false⟩ = true := by kernel_rfl
theorem tyU51 : Tryd.prog.underlying 51 = some Tryd.t50.desc := by kernel_rfl
theorem tyK51 : chkTy (cfgOf hand wants rtip ro pur) 51 ⟨Tryd.t50.desc, 1, 8, true, [CSh.other], [V.raw (.pointer none)], false⟩ = true := by kernel_rfl
theorem tyU52 : Tryd.prog.underlying 52 = some Tryd.t52.desc := by kernel_rfl
theorem tyK52 : chkTy (cfgOf hand wants rtip ro pur) 52 ⟨Tryd.t52.desc, 1, 8, false, [CSh.other], [V.raw .nilFunc], false⟩ = true := by kernel_rfl
theorem tyU53 : Tryd.prog.underlying 53 = some Tryd.t53.desc := by kernel_rfl
theorem tyK53 : chkTy (cfgOf hand wants rtip ro pur) 53 ⟨Tryd.t53.desc, 1, 8, false, [CSh.other], [V.raw .nilFunc], false⟩ = true := by kernel_rfl
theorem tyU54 : Tryd.prog.underlying 54 = some Tryd.t54.desc := by kernel_rfl
theorem tyK54 : chkTy (cfgOf hand wants rtip ro pur) 54 ⟨Tryd.t54.desc, 1, 8, false, [CSh.other], [V.raw .nilFunc], false⟩ = true := by kernel_rfl
theorem tyU55 : Tryd.prog.underlying 55 = some Tryd.t55.desc := by kernel_rfl
theorem tyK55 : chkTy (cfgOf hand wants rtip ro pur) 55 ⟨Tryd.t55.desc, 1, 8, false, [CSh.other], [V.raw (.map none)], false⟩ = true := by kernel_rfl
theorem tyU57 : Tryd.prog.underlying 57 = some Tryd.t57.desc := by kernel_rfl
theorem tyK57 : chkTy (cfgOf hand wants rtip ro pur) 57 ⟨Tryd.t57.desc, 1, 8, false, [CSh.other], [V.raw .nilFunc], false⟩ = true := by kernel_rfl
theorem tyU58 : Tryd.prog.underlying 58 = some Tryd.t58.desc := by kernel_rfl
theorem tyK58 : chkTy (cfgOf hand wants rtip ro pur) 58 ⟨Tryd.t58.desc, 1, 8, false, [CSh.other], [V.raw .nilFunc], false⟩ = true := by kernel_rfl
theorem tyU60 : Tryd.prog.underlying 60 = some Tryd.t60.desc := by kernel_rfl
theorem tyK60 : chkTy (cfgOf hand wants rtip ro pur) 60 ⟨Tryd.t60.desc, 1, 8, false, [CSh.other], [V.raw .nilFunc], false⟩ = true := by kernel_rfl
theorem tyU61 : Tryd.prog.underlying 61 = some Tryd.t61.desc := by kernel_rfl
theorem tyK61 : chkTy (cfgOf hand wants rtip ro pur) 61 ⟨Tryd.t61.desc, 1, 8, false, [CSh.other], [V.raw .nilFunc], false⟩ = true := by kernel_rfl
theorem tyU62 : Tryd.prog.underlying 62 = some Tryd.t41.desc := by kernel_rfl
theorem tyK62 : chkTy (cfgOf hand wants rtip ro pur) 62 ⟨Tryd.t41.desc, 2, 32, true, [CSh.str, CSh.str], [V.str [], V.str []], true⟩ = true := by kernel_rfl
theorem tyU63 : Tryd.prog.underlying 63 = some Tryd.t63.desc := by kernel_rfl
theorem tyK63 : chkTy (cfgOf hand wants rtip ro pur) 63 ⟨Tryd.t63.desc, 1, 8, false, [CSh.other], [V.raw .nilFunc], false⟩ = true := by kernel_rfl
theorem tyU64 : Tryd.prog.underlying 64 = some Tryd.t64.desc := by kernel_rfl
theorem tyK64 : chkTy (cfgOf hand wants rtip ro pur) 64 ⟨Tryd.t64.desc, 1, 8, false, [CSh.other], [V.raw .nilFunc], false⟩ = true := by kernel_rfl
theorem tyU65 : Tryd.prog.underlying 65 = some Tryd.t65.desc := by kernel_rfl
theorem tyK65 : chkTy (cfgOf hand wants rtip ro pur) 65 ⟨Tryd.t65.desc, 1, 8, false, [CSh.other], [V.raw .nilFunc], false⟩ = true := by kernel_rfl
theorem tyU66 : Tryd.prog.underlying 66 = some Tryd.t66.desc := by kernel_rfl
theorem tyK66 : chkTy (cfgOf hand wants rtip ro pur) 66 ⟨Tryd.t66.desc, 1, 8, false, [CSh.other], [V.raw .nilFunc], false⟩ = true := by kernel_rfl
theorem tyU67 : Tryd.prog.underlying 67 = some Tryd.t67.desc := by kernel_rfl
theorem tyK67 : chkTy (cfgOf hand wants rtip ro pur) 67 ⟨Tryd.t67.desc, 1, 8, false, [CSh.other], [V.raw .nilFunc], false⟩ = true := by kernel_rfl
theorem tyU68 : Tryd.prog.underlying 68 = some Tryd.t68.desc := by kernel_rfl
theorem tyK68 : chkTy (cfgOf hand wants rtip ro pur) 68 ⟨Tryd.t68.desc, 1, 8, false, [CSh.other], [V.raw .nilFunc], false⟩ = true := by kernel_rfl
theorem tyU69 : Tryd.prog.underlying 69 = some Tryd.t69.desc := by kernel_rfl
theorem tyK69 : chkTy (cfgOf hand wants rtip ro pur) 69 ⟨Tryd.t69.desc, 1, 8, false, [CSh.other], [V.raw .nilFunc], false⟩ = true := by kernel_rfl
theorem tyU70 : Tryd.prog.underlying 70 = some Tryd.t70.desc := by kernel_rfl
theorem tyK70 : chkTy (cfgOf hand wants rtip ro pur) 70 ⟨Tryd.t70.desc, 1, 8, false, [CSh.other], [V.raw .nilFunc], false⟩ = true := by kernel_rfl
theorem tyU71 : Tryd.prog.underlying 71 = some Tryd.t71.desc := by kernel_rfl
theorem tyK71 : chkTy (cfgOf hand wants rtip ro pur) 71 ⟨Tryd.t71.desc, 1, 8, false, [CSh.other], [V.raw .nilFunc], false⟩ = true := by kernel_rfl
theorem tyU72 : Tryd.prog.underlying 72 = some Tryd.t72.desc := by kernel_rfl
theorem tyK72 : chkTy (cfgOf hand wants rtip ro pur) 72 ⟨Tryd.t72.desc, 1, 8, false, [CSh.other], [V.raw .nilFunc], false⟩ = true := by kernel_rfl
theorem tyU74 : Tryd.prog.underlying 74 = some Tryd.t74.desc := by kernel_rfl
theorem tyK74 : chkTy (cfgOf hand wants rtip ro pur) 74 ⟨Tryd.t74.desc, 1, 8, false, [CSh.other], [V.raw .nilFunc], false⟩ = true := by kernel_rfl
theorem tyU75 : Tryd.prog.underlying 75 = some Tryd.t75.desc := by kernel_rfl
theorem tyK75 : chkTy (cfgOf hand wants rtip ro pur) 75 ⟨Tryd.t75.desc, 1, 24, false, [CSh.lst 9 false], [V.lst 9 true []], false⟩ = true := by kernel_rfl
theorem tyU76 : Tryd.prog.underlying 76 = some Tryd.t76.desc := by kernel_rfl
theorem tyK76 : chkTy (cfgOf hand wants rtip ro pur) 76 ⟨Tryd.t76.desc, 1, 8, false, [CSh.other], [V.raw .nilFunc], false⟩ = true := by kernel_rfl
theorem tyU77 : Tryd.prog.underlying 77 = some Tryd.t77.desc := by kernel_rfl
theorem tyK77 : chkTy (cfgOf hand wants rtip ro pur) 77 ⟨Tryd.t77.desc, 1, 8, false, [CSh.other], [V.raw .nilFunc], false⟩ = true := by kernel_rfl
theorem tyU78 : Tryd.prog.underlying 78 = some Tryd.t78.desc := by kernel_rfl
theorem tyK78 : chkTy (cfgOf hand wants rtip ro pur) 78 ⟨Tryd.t78.desc, 1, 8, false, [CSh.other], [V.raw .nilFunc], false⟩ = true := by kernel_rfl
theorem tyU79 : Tryd.prog.underlying 79 = some Tryd.t79.desc := by kernel_rfl
theorem tyK79 : chkTy (cfgOf hand wants rtip ro pur) 79 ⟨Tryd.t79.desc, 1, 8, false, [CSh.int .u64], [V.int .u64 0], true⟩ = true := by kernel_rfl
theorem tyU80 : Tryd.prog.underlying 80 = some Tryd.t80.desc := by kernel_rfl
theorem tyK80 : chkTy (cfgOf hand wants rtip ro pur) 80 ⟨Tryd.t80.desc, 1, 8, false, [CSh.other], [V.raw .nilFunc], false⟩ = true := by kernel_rfl
theorem tyU81 : Tryd.prog.underlying 81 = some Tryd.t81.desc := by kernel_rfl
theorem tyK81 : chkTy (cfgOf hand wants rtip ro pur) 81 ⟨Tryd.t81.desc, 1, 8, false, [CSh.other], [V.raw .nilFunc], false⟩ = true := by kernel_rfl
theorem tyU82 : Tryd.prog.underlying 82 = some Tryd.t82.desc := by kernel_rfl
theorem tyK82 : chkTy (cfgOf hand wants rtip ro pur) 82 ⟨Tryd.t82.desc, 1, 8, false, [CSh.other], [V.raw .nilFunc], false⟩ = true := by kernel_rfl
theorem tyU83 : Tryd.prog.underlying 83 = some Tryd.t83.desc := by kernel_rfl
theorem tyK83 : chkTy (cfgOf hand wants rtip ro pur) 83 ⟨Tryd.t83.desc, 1, 4, false, [CSh.int .u32], [V.int .u32 0], true⟩ = true := by kernel_rfl
theorem tyU85 : Tryd.prog.underlying 85 = some Tryd.t85.desc := by kernel_rfl
theorem tyK85 : chkTy (cfgOf hand wants rtip ro pur) 85 ⟨Tryd.t85.desc, 1, 8, false, [CSh.other], [V.raw .nilFunc], false⟩ = true := by kernel_rfl
theorem tyU86 : Tryd.prog.underlying 86 = some Tryd.t86.desc := by kernel_rfl
theorem tyK86 : chkTy (cfgOf hand wants rtip ro pur) 86 ⟨Tryd.t86.desc, 1, 8, false, [CSh.other], [V.raw .nilFunc], false⟩ = true := by kernel_rfl
theorem tyU87 : Tryd.prog.underlying 87 = some Tryd.t87.desc := by kernel_rfl
theorem tyK87 : chkTy (cfgOf hand wants rtip ro pur) 87 ⟨Tryd.t87.desc, 1, 8, false, [CSh.other], [V.raw .nilFunc], false⟩ = true := by kernel_rfl
theorem tyU89 : Tryd.prog.underlying 89 = some Tryd.t89.desc := by kernel_rfl
theorem tyK89 : chkTy (cfgOf hand wants rtip ro pur) 89 ⟨Tryd.t89.desc, 1, 8, false, [CSh.other], [V.raw .nilFunc], false⟩ = true := by kernel_rfl
theorem tyU90 : Tryd.prog.underlying 90 = some Tryd.t90.desc := by kernel_rfl
theorem tyK90 : chkTy (cfgOf hand wants rtip ro pur) 90 ⟨Tryd.t90.desc, 256, 256, true, [CSh.int .u8, CSh.int .u8, CSh.int .u8, CSh.int .u8, CSh.int .u8, CSh.int .u8, CSh.int .u8, CSh.int .u8, CSh.int .u8, CSh.int .u8, CSh.int .u8, CSh.int .u8, CSh.int .u8, CSh.int .u8, CSh.int .u8, CSh.int .u8, CSh.int .u8, CSh.int .u8, CSh.int .u8, CSh.int .u8, CSh.int .u8, CSh.int .u8, CSh.int .u8, CSh.int .u8, CSh.int .u8, CSh.int .u8, CSh.int .u8, CSh.int .u8, CSh.int .u8, CSh.int .u8, CSh.int .u8, CSh.int .u8, CSh.int .u8, CSh.int .u8, CSh.int .u8, CSh.int .u8, CSh.int .u8, CSh.int .u8, CSh.int .u8, CSh.int .u8, CSh.int .u8, CSh.int .u8, CSh.int .u8, CSh.int .u8, CSh.int .u8, CSh.int .u8, CSh.int .u8, CSh.int .u8, CSh.int .u8, CSh.int .u8, CSh.int .u8, CSh.int .u8, CSh.int .u8, CSh.int .u8, CSh.int .u8, CSh.int .u8, CSh.int .u8, CSh.int .u8, CSh.int .u8, CSh.int .u8, CSh.int .u8, CSh.int .u8, CSh.int .u8, CSh.int .u8, CSh.int .u8, CSh.int .u8, CSh.int .u8, CSh.int .u8, CSh.int .u8, CSh.int .u8, CSh.int .u8, CSh.int .u8, CSh.int .u8, CSh.int .u8, CSh.int .u8, CSh.int .u8, CSh.int .u8, CSh.int .u8, CSh.int .u8, CSh.int .u8, CSh.int .u8, CSh.int .u8, CSh.int .u8, CSh.int .u8, CSh.int .u8, CSh.int .u8, CSh.int .u8, CSh.int .u8, CSh.int .u8, CSh.int .u8, CSh.int .u8, CSh.int .u8, CSh.int .u8, CSh.int .u8, CSh.int .u8, CSh.int .u8, CSh.int .u8, CSh.int .u8, CSh.int .u8, CSh.int .u8, CSh.int .u8, CSh.int .u8, CSh.int .u8, CSh.int .u8, CSh.int .u8, CSh.int .u8, CSh.int .u8, CSh.int .u8, CSh.int .u8, CSh.int .u8, CSh.int .u8, CSh.int .u8, CSh.int .u8, CSh.int .u8, CSh.int .u8, CSh.int .u8, CSh.int .u8, CSh.int .u8, CSh.int .u8, CSh.int .u8, CSh.int .u8, CSh.int .u8, CSh.int .u8, CSh.int .u8, CSh.int .u8, CSh.int .u8, CSh.int .u8, CSh.int .u8, CSh.int .u8, CSh.int .u8, CSh.int .u8, CSh.int .u8, CSh.int .u8, CSh.int .u8, CSh.int .u8, CSh.int .u8, CSh.int .u8, CSh.int .u8, CSh.int .u8, CSh.int .u8, CSh.int .u8, CSh.int .u8, CSh.int .u8, CSh.int .u8, CSh.int .u8, CSh.int .u8, CSh.int .u8, CSh.int .u8, CSh.int .u8, CSh.int .u8, CSh.int .u8, CSh.int .u8, CSh.int .u8, CSh.int .u8, CSh.int .u8, CSh.int .u8, CSh.int .u8, CSh.int .u8, CSh.int .u8, CSh.int .u8, CSh.int .u8, CSh.int .u8, CSh.int .u8, CSh.int .u8, CSh.int .u8, CSh.int .u8, CSh.int .u8, CSh.int .u8, CSh.int .u8, CSh.int .u8, CSh.int .u8, CSh.int .u8, CSh.int .u8, CSh.int .u8, CSh.int .u8, CSh.int .u8, CSh.int .u8, CSh.int .u8, CSh.int .u8, CSh.int .u8, CSh.int .u8, CSh.int .u8, CSh.int .u8, CSh.int .u8, CSh.int .u8, CSh.int .u8, CSh.int .u8, CSh.int .u8, CSh.int .u8, CSh.int .u8, CSh.int .u8, CSh.int .u8, CSh.int .u8, CSh.int .u8, CSh.int .u8, CSh.int .u8, CSh.int .u8, CSh.int .u8, CSh.int .u8, CSh.int .u8, CSh.int .u8, CSh.int .u8, CSh.int .u8, CSh.int .u8, CSh.int .u8, CSh.int .u8, CSh.int .u8, CSh.int .u8, CSh.int .u8, CSh.int .u8, CSh.int .u8, CSh.int .u8, CSh.int .u8, CSh.int .u8, CSh.int .u8, CSh.int .u8, CSh.int .u8, CSh.int .u8, CSh.int .u8, CSh.int .u8, CSh.int .u8, CSh.int .u8, CSh.int .u8, CSh.int .u8, CSh.int .u8, CSh.int .u8, CSh.int .u8, CSh.int .u8, CSh.int .u8, CSh.int .u8, CSh.int .u8, CSh.int .u8, CSh.int .u8, CSh.int .u8, CSh.int .u8, CSh.int .u8, CSh.int .u8, CSh.int .u8, CSh.int .u8, CSh.int .u8, CSh.int .u8, CSh.int .u8, CSh.int .u8, CSh.int .u8, CSh.int .u8, CSh.int .u8, CSh.int .u8, CSh.int .u8, CSh.int .u8, CSh.int .u8, CSh.int .u8, CSh.int .u8, CSh.int .u8, CSh.int .u8, CSh.int .u8, CSh.int .u8], [V.int .u8 0, V.int .u8 0, V.int .u8 0, V.int .u8 0, V.int .u8 0, V.int .u8 0, V.int .u8 0, V.int .u8 0, V.int .u8 0, V.int .u8 0, V.int .u8 0, V.int .u8 0, V.int .u8 0, V.int .u8 0, V.int .u8 0, V.int .u8 0, V.int .u8 0, V.int .u8 0, V.int .u8 0, V.int .u8 0, V.int .u8 0, V.int .u8 0, V.int .u8 0, V.int .u8 0, V.int .u8 0, V.int .u8 0, V.int .u8 0, V.int .u8 0, V.int .u8 0, V.int .u8 0, V.int .u8 0, V.int .u8 0, V.int .u8 0, V.int .u8 0, V.int .u8 0, V.int .u8 0, V.int .u8 0, V.int .u8 0, V.int .u8 0, V.int .u8 0, V.int .u8 0, V.int .u8 0, V.int .u8 0, V.int .u8 0, V.int .u8 0, V.int .u8 0, V.int .u8 0, V.int .u8 0, V.int .u8 0, V.int .u8 0, V.int .u8 0, V.int .u8 0, V.int .u8 0, V.int .u8 0, V.int .u8 0, V.int .u8 0, V.int .u8 0, V.int .u8 0, V.int .u8 0, V.int .u8 0, V.int .u8 0, V.int .u8 0, V.int .u8 0, V.int .u8 0, V.int .u8 0, V.int .u8 0, V.int .u8 0, V.int .u8 0, V.int .u8 0, V.int .u8 0, V.int .u8 0, V.int .u8 0, V.int .u8 0, V.int .u8 0, V.int .u8 0, V.int .u8 0, V.int .u8 0, V.int .u8 0, V.int .u8 0, V.int .u8 0, V.int .u8 0, V.int .u8 0, V.int .u8 0, V.int .u8 0, V.int .u8 0, V.int .u8 0, V.int .u8 0, V.int .u8 0, V.int .u8 0, V.int .u8 0, V.int .u8 0, V.int .u8 0, V.int .u8 0, V.int .u8 0, V.int .u8 0, V.int .u8 0, V.int .u8 0, V.int .u8 0, V.int .u8 0, V.int .u8 0, V.int .u8 0, V.int .u8 0, V.int .u8 0, V.int .u8 0, V.int .u8 0, V.int .u8 0, V.int .u8 0, V.int .u8 0, V.int .u8 0, V.int .u8 0, V.int .u8 0, V.int .u8 0, V.int .u8 0, V.int .u8 0, V.int .u8 0, V.int .u8 0, V.int .u8 0, V.int .u8 0, V.int .u8 0, V.int .u8 0, V.int .u8 0, V.int .u8 0, V.int .u8 0, V.int .u8 0, V.int .u8 0, V.int .u8 0, V.int .u8 0, V.int .u8 0, V.int .u8 0, V.int .u8 0, V.int .u8 0, V.int .u8 0, V.int .u8 0, V.int .u8 0, V.int .u8 0, V.int .u8 0, V.int .u8 0, V.int .u8 0, V.int .u8 0, V.int .u8 0, V.int .u8 0, V.int .u8 0, V.int .u8 0, V.int .u8 0, V.int .u8 0, V.int .u8 0, V.int .u8 0, V.int .u8 0, V.int .u8 0, V.int .u8 0, V.int .u8 0, V.int .u8 0, V.int .u8 0, V.int .u8 0, V.int .u8 0, V.int .u8 0, V.int .u8 0, V.int .u8 0, V.int .u8 0, V.int .u8 0, V.int .u8 0, V.int .u8 0, V.int .u8 0, V.int .u8 0, V.int .u8 0, V.int .u8 0, V.int .u8 0, V.int .u8 0, V.int .u8 0, V.int .u8 0, V.int .u8 0, V.int .u8 0, V.int .u8 0, V.int .u8 0, V.int .u8 0, V.int .u8 0, V.int .u8 0, V.int .u8 0, V.int .u8 0, V.int .u8 0, V.int .u8 0, V.int .u8 0, V.int .u8 0, V.int .u8 0, V.int .u8 0, V.int .u8 0, V.int .u8 0, V.int .u8 0, V.int .u8 0, V.int .u8 0, V.int .u8 0, V.int .u8 0, V.int .u8 0, V.int .u8 0, V.int .u8 0, V.int .u8 0, V.int .u8 0, V.int .u8 0, V.int .u8 0, V.int .u8 0, V.int .u8 0, V.int .u8 0, V.int .u8 0, V.int .u8 0, V.int .u8 0, V.int .u8 0, V.int .u8 0, V.int .u8 0, V.int .u8 0, V.int .u8 0, V.int .u8 0, V.int .u8 0, V.int .u8 0, V.int .u8 0, V.int .u8 0, V.int .u8 0, V.int .u8 0, V.int .u8 0, V.int .u8 0, V.int .u8 0, V.int .u8 0, V.int .u8 0, V.int .u8 0, V.int .u8 0, V.int .u8 0, V.int .u8 0, V.int .u8 0, V.int .u8 0, V.int .u8 0, V.int .u8 0, V.int .u8 0, V.int .u8 0, V.int .u8 0, V.int .u8 0, V.int .u8 0, V.int .u8 0, V.int .u8 0, V.int .u8 0, V.int .u8 0, V.int .u8 0, V.int .u8 0, V.int .u8 0, V.int .u8 0, V.int .u8 0, V.int .u8 0, V.int .u8 0, V.int .u8 0, V.int .u8 0, V.int .u8 0, V.int .u8 0, V.int .u8 0, V.int .u8 0, V.int .u8 0, V.int .u8 0, V.int .u8 0, V.int .u8 0], false⟩ = true := by kernel_rfl
theorem tyU91 : Tryd.prog.underlying 91 = some Tryd.t91.desc := by kernel_rfl
theorem tyK91 : chkTy (cfgOf hand wants rtip ro pur) 91 ⟨Tryd.t91.desc, 2, 2, true, [CSh.int .u8, CSh.int .u8], [V.int .u8 0, V.int .u8 0], false⟩ = true := by kernel_rfl
theorem tyU92 : Tryd.prog.underlying 92 = some Tryd.t91.desc := by kernel_rfl
theorem tyK92 : chkTy (cfgOf hand wants rtip ro pur) 92 ⟨Tryd.t91.desc, 2, 2, true, [CSh.int .u8, CSh.int .u8], [V.int .u8 0, V.int .u8 0], false⟩ = true := by kernel_rfl
theorem tyU93 : Tryd.prog.underlying 93 = some Tryd.t93.desc := by kernel_rfl
theorem tyK93 : chkTy (cfgOf hand wants rtip ro pur) 93 ⟨Tryd.t93.desc, 32, 32, true, [CSh.int .u8, CSh.int .u8, CSh.int .u8, CSh.int .u8, CSh.int .u8, CSh.int .u8, CSh.int .u8, CSh.int .u8, CSh.int .u8, CSh.int .u8, CSh.int .u8, CSh.int .u8, CSh.int .u8, CSh.int .u8, CSh.int .u8, CSh.int .u8, CSh.int .u8, CSh.int .u8, CSh.int .u8, CSh.int .u8, CSh.int .u8, CSh.int .u8, CSh.int .u8, CSh.int .u8, CSh.int .u8, CSh.int .u8, CSh.int .u8, CSh.int .u8, CSh.int .u8, CSh.int .u8, CSh.int .u8, CSh.int .u8], [V.int .u8 0, V.int .u8 0, V.int .u8 0, V.int .u8 0, V.int .u8 0, V.int .u8 0, V.int .u8 0, V.int .u8 0, V.int .u8 0, V.int .u8 0, V.int .u8 0, V.int .u8 0, V.int .u8 0, V.int .u8 0, V.int .u8 0, V.int .u8 0, V.int .u8 0, V.int .u8 0, V.int .u8 0, V.int .u8 0, V.int .u8 0, V.int .u8 0, V.int .u8 0, V.int .u8 0, V.int .u8 0, V.int .u8 0, V.int .u8 0, V.int .u8 0, V.int .u8 0, V.int .u8 0, V.int .u8 0, V.int .u8 0], false⟩ = true := by kernel_rfl
theorem tyU94 : Tryd.prog.underlying 94 = some Tryd.t94.desc := by kernel_rfl
theorem tyK94 : chkTy (cfgOf hand wants rtip ro pur) 94 ⟨Tryd.t94.desc, 4, 40, true, [CSh.other, CSh.other, CSh.other, CSh.str], [V.raw (.pointer none), V.raw (.pointer none), V.raw (.pointer none), V.str []], false⟩ = true := by kernel_rfl
theorem tyU95 : Tryd.prog.underlying 95 = some Tryd.t94.desc := by kernel_rfl
theorem tyK95 : chkTy (cfgOf hand wants rtip ro pur) 95 ⟨Tryd.t94.desc, 4, 40, true, [CSh.other, CSh.other, CSh.other, CSh.str], [V.raw (.pointer none), V.raw (.pointer none), V.raw (.pointer none), V.str []], false⟩ = true := by kernel_rfl
theorem tyU96 : Tryd.prog.underlying 96 = some Tryd.t96.desc := by kernel_rfl
theorem tyK96 : chkTy (cfgOf hand wants rtip ro pur) 96 ⟨Tryd.t96.desc, 0, 0, true, [], [], false⟩ = true := by kernel_rfl
theorem tyU97 : Tryd.prog.underlying 97 = some Tryd.t97.desc := by kernel_rfl
theorem tyK97 : chkTy (cfgOf hand wants rtip ro pur) 97 ⟨Tryd.t97.desc, 0, 0, true, [], [], false⟩ = true := by kernel_rfl
theorem tyU98 : Tryd.prog.underlying 98 = some Tryd.t97.desc := by kernel_rfl
theorem tyK98 : chkTy (cfgOf hand wants rtip ro pur) 98 ⟨Tryd.t97.desc, 0, 0, true, [], [], false⟩ = true := by kernel_rfl
theorem tyU99 : Tryd.prog.underlying 99 = some Tryd.t5.desc := by kernel_rfl
theorem tyK99 : chkTy (cfgOf hand wants rtip ro pur) 99 ⟨Tryd.t5.desc, 1, 1, false, [CSh.int .u8], [V.int .u8 0], true⟩ = true := by kernel_rfl
theorem tyU100 : Tryd.prog.underlying 100 = some Tryd.t5.desc := by kernel_rfl
theorem tyK100 : chkTy (cfgOf hand wants rtip ro pur) 100 ⟨Tryd.t5.desc, 1, 1, false, [CSh.int .u8], [V.int .u8 0], true⟩ = true := by kernel_rfl
theorem tyU101 : Tryd.prog.underlying 101 = some Tryd.t101.desc := by kernel_rfl
theorem tyK101 : chkTy (cfgOf hand wants rtip ro pur) 101 ⟨Tryd.t101.desc, 1, 8, false, [CSh.other], [V.raw .nilFunc], false⟩ = true := by kernel_rfl
theorem tyU102 : Tryd.prog.underlying 102 = some Tryd.t102.desc := by kernel_rfl
theorem tyK102 : chkTy (cfgOf hand wants rtip ro pur) 102 ⟨Tryd.t102.desc, 1, 8, false, [CSh.other], [V.raw (.pointer none)], false⟩ = true := by kernel_rfl
theorem tyU103 : Tryd.prog.underlying 103 = some Tryd.t21.desc := by kernel_rfl
theorem tyK103 : chkTy (cfgOf hand wants rtip ro pur) 103 ⟨Tryd.t21.desc, 1, 4, false, [CSh.int .i32], [V.int .i32 0], true⟩ = true := by kernel_rfl
theorem tyU104 : Tryd.prog.underlying 104 = some Tryd.t21.desc := by kernel_rfl
theorem tyK104 : chkTy (cfgOf hand wants rtip ro pur) 104 ⟨Tryd.t21.desc, 1, 4, false, [CSh.int .i32], [V.int .i32 0], true⟩ = true := by kernel_rfl
theorem tyU105 : Tryd.prog.underlying 105 = some Tryd.t105.desc := by kernel_rfl
theorem tyK105 : chkTy (cfgOf hand wants rtip ro pur) 105 ⟨Tryd.t105.desc, 11, 48, true, [CSh.int .u64, CSh.int .u64, CSh.int .u32, CSh.int .u8, CSh.int .u8, CSh.int .u8, CSh.int .u8, CSh.other, CSh.other, CSh.int .i32, CSh.int .i32], [V.int .u64 0, V.int .u64 0, V.int .u32 0, V.int .u8 0, V.int .u8 0, V.int .u8 0, V.int .u8 0, V.raw .nilFunc, V.raw (.pointer none), V.int .i32 0, V.int .i32 0], false⟩ = true := by kernel_rfl
theorem tyU106 : Tryd.prog.underlying 106 = some Tryd.t105.desc := by kernel_rfl
theorem tyK106 : chkTy (cfgOf hand wants rtip ro pur) 106 ⟨Tryd.t105.desc, 11, 48, true, [CSh.int .u64, CSh.int .u64, CSh.int .u32, CSh.int .u8, CSh.int .u8, CSh.int .u8, CSh.int .u8, CSh.other, CSh.other, CSh.int .i32, CSh.int .i32], [V.int .u64 0, V.int .u64 0, V.int .u32 0, V.int .u8 0, V.int .u8 0, V.int .u8 0, V.int .u8 0, V.raw .nilFunc, V.raw (.pointer none), V.int .i32 0, V.int .i32 0], false⟩ = true := by kernel_rfl
theorem tyU107 : Tryd.prog.underlying 107 = some Tryd.t107.desc := by kernel_rfl
theorem tyK107 : chkTy (cfgOf hand wants rtip ro pur) 107 ⟨Tryd.t107.desc, 1, 8, false, [CSh.other], [V.raw (.pointer none)], false⟩ = true := by kernel_rfl
theorem tyCk0 : allT (fun t y => TyOk (cfgOf hand wants rtip ro pur) t y) tyC0 (0 * 16) := ⟨tyOk_of (t := 1) tyU1 (tyK1 hand wants rtip ro pur), tyOk_of (t := 2) tyU2 (tyK2 hand wants rtip ro pur), tyOk_of (t := 3) tyU3 (tyK3 hand wants rtip ro pur), tyOk_of (t := 4) tyU4 (tyK4 hand wants rtip ro pur), tyOk_of (t := 5) tyU5 (tyK5 hand wants rtip ro pur), tyOk_of (t := 6) tyU6 (tyK6 hand wants rtip ro pur), tyOk_of (t := 7) tyU7 (tyK7 hand wants rtip ro pur), tyOk_of (t := 8) tyU8 (tyK8 hand wants rtip ro pur), tyOk_of (t := 9) tyU9 (tyK9 hand wants rtip ro pur), tyOk_of (t := 10) tyU10 (tyK10 hand wants rtip ro pur), tyOk_of (t := 11) tyU11 (tyK11 hand wants rtip ro pur), tyOk_of (t := 12) tyU12 (tyK12 hand wants rtip ro pur), tyOk_of (t := 13) tyU13 (tyK13 hand wants rtip ro pur), tyOk_of (t := 14) tyU14 (tyK14 hand wants rtip ro pur), tyOk_of (t := 15) tyU15 (tyK15 hand wants rtip ro pur), trivial⟩
theorem tyCk1 : allT (fun t y => TyOk (cfgOf hand wants rtip ro pur) t y) tyC1 (1 * 16) := ⟨tyOk_of (t := 16) tyU16 (tyK16 hand wants rtip ro pur), tyOk_of (t := 17) tyU17 (tyK17 hand wants rtip ro pur), tyOk_of (t := 18) tyU18 (tyK18 hand wants rtip ro pur), tyOk_of (t := 19) tyU19 (tyK19 hand wants rtip ro pur), tyOk_of (t := 20) tyU20 (tyK20 hand wants rtip ro pur), tyOk_of (t := 21) tyU21 (tyK21 hand wants rtip ro pur), tyOk_of (t := 22) tyU22 (tyK22 hand wants rtip ro pur), tyOk_of (t := 23) tyU23 (tyK23 hand wants rtip ro pur), tyOk_of (t := 24) tyU24 (tyK24 hand wants rtip ro pur), tyOk_of (t := 25) tyU25 (tyK25 hand wants rtip ro pur), tyOk_of (t := 27) tyU27 (tyK27 hand wants rtip ro pur), tyOk_of (t := 28) tyU28 (tyK28 hand wants rtip ro pur), tyOk_of (t := 29) tyU29 (tyK29 hand wants rtip ro pur), tyOk_of (t := 30) tyU30 (tyK30 hand wants rtip ro pur), trivial⟩
theorem tyCk2 : allT (fun t y => TyOk (cfgOf hand wants rtip ro pur) t y) tyC2 (2 * 16) := ⟨tyOk_of (t := 32) tyU32 (tyK32 hand wants rtip ro pur), tyOk_of (t := 34) tyU34 (tyK34 hand wants rtip ro pur), tyOk_of (t := 35) tyU35 (tyK35 hand wants rtip ro pur), tyOk_of (t := 36) tyU36 (tyK36 hand wants rtip ro pur), tyOk_of (t := 37) tyU37 (tyK37 hand wants rtip ro pur), tyOk_of (t := 38) tyU38 (tyK38 hand wants rtip ro pur), tyOk_of (t := 39) tyU39 (tyK39 hand wants rtip ro pur), tyOk_of (t := 40) tyU40 (tyK40 hand wants rtip ro pur), tyOk_of (t := 41) tyU41 (tyK41 hand wants rtip ro pur), tyOk_of (t := 42) tyU42 (tyK42 hand wants rtip ro pur), tyOk_of (t := 43) tyU43 (tyK43 hand wants rtip ro pur), tyOk_of (t := 44) tyU44 (tyK44 hand wants rtip ro pur), tyOk_of (t := 45) tyU45 (tyK45 hand wants rtip ro pur), tyOk_of (t := 46) tyU46 (tyK46 hand wants rtip ro pur), tyOk_of (t := 47) tyU47 (tyK47 hand wants rtip ro pur), trivial⟩
theorem tyCk3 : allT (fun t y => TyOk (cfgOf hand wants rtip ro pur) t y) tyC3 (3 * 16) := ⟨tyOk_of (t := 48) tyU48 (tyK48 hand wants rtip ro pur), tyOk_of (t := 49) tyU49 (tyK49 hand wants rtip ro pur), tyOk_of (t := 50) tyU50 (tyK50 hand wants rtip ro pur), tyOk_of (t := 51) tyU51 (tyK51 hand wants rtip ro pur), tyOk_of (t := 52) tyU52 (tyK52 hand wants rtip ro pur), tyOk_of (t := 53) tyU53 (tyK53 hand wants rtip ro pur), tyOk_of (t := 54) tyU54 (tyK54 hand wants rtip ro pur), tyOk_of (t := 55) tyU55 (tyK55 hand wants rtip ro pur), tyOk_of (t := 57) tyU57 (tyK57 hand wants rtip ro pur), tyOk_of (t := 58) tyU58 (tyK58 hand wants rtip ro pur), tyOk_of (t := 60) tyU60 (tyK60 hand wants rtip ro pur), tyOk_of (t := 61) tyU61 (tyK61 hand wants rtip ro pur), tyOk_of (t := 62) tyU62 (tyK62 hand wants rtip ro pur), tyOk_of (t := 63) tyU63 (tyK63 hand wants rtip ro pur), trivial⟩
theorem tyCk4 : allT (fun t y => TyOk (cfgOf hand wants rtip ro pur) t y) tyC4 (4 * 16) := ⟨tyOk_of (t := 64) tyU64 (tyK64 hand wants rtip ro pur), tyOk_of (t := 65) tyU65 (tyK65 hand wants rtip ro pur), tyOk_of (t := 66) tyU66 (tyK66 hand wants rtip ro pur), tyOk_of (t := 67) tyU67 (tyK67 hand wants rtip ro pur), tyOk_of (t := 68) tyU68 (tyK68 hand wants rtip ro pur), tyOk_of (t := 69) tyU69 (tyK69 hand wants rtip ro pur), tyOk_of (t := 70) tyU70 (tyK70 hand wants rtip ro pur), tyOk_of (t := 71) tyU71 (tyK71 hand wants rtip ro pur), tyOk_of (t := 72) tyU72 (tyK72 hand wants rtip ro pur), tyOk_of (t := 74) tyU74 (tyK74 hand wants rtip ro pur), tyOk_of (t := 75) tyU75 (tyK75 hand wants rtip ro pur), tyOk_of (t := 76) tyU76 (tyK76 hand wants rtip ro pur), tyOk_of (t := 77) tyU77 (tyK77 hand wants rtip ro pur), tyOk_of (t := 78) tyU78 (tyK78 hand wants rtip ro pur), tyOk_of (t := 79) tyU79 (tyK79 hand wants rtip ro pur), trivial⟩
theorem tyCk5 : allT (fun t y => TyOk (cfgOf hand wants rtip ro pur) t y) tyC5 (5 * 16) := ⟨tyOk_of (t := 80) tyU80 (tyK80 hand wants rtip ro pur), tyOk_of (t := 81) tyU81 (tyK81 hand wants rtip ro pur), tyOk_of (t := 82) tyU82 (tyK82 hand wants rtip ro pur), tyOk_of (t := 83) tyU83 (tyK83 hand wants rtip ro pur), tyOk_of (t := 85) tyU85 (tyK85 hand wants rtip ro pur), tyOk_of (t := 86) tyU86 (tyK86 hand wants rtip ro pur), tyOk_of (t := 87) tyU87 (tyK87 hand wants rtip ro pur), tyOk_of (t := 89) tyU89 (tyK89 hand wants rtip ro pur), tyOk_of (t := 90) tyU90 (tyK90 hand wants rtip ro pur), tyOk_of (t := 91) tyU91 (tyK91 hand wants rtip ro pur), tyOk_of (t := 92) tyU92 (tyK92 hand wants rtip ro pur), tyOk_of (t := 93) tyU93 (tyK93 hand wants rtip ro pur), tyOk_of (t := 94) tyU94 (tyK94 hand wants rtip ro pur), tyOk_of (t := 95) tyU95 (tyK95 hand wants rtip ro pur), trivial⟩
theorem tyCk6 : allT (fun t y => TyOk (cfgOf hand wants rtip ro pur) t y) tyC6 (6 * 16) := ⟨tyOk_of (t := 96) tyU96 (tyK96 hand wants rtip ro pur), tyOk_of (t := 97) tyU97 (tyK97 hand wants rtip ro pur), tyOk_of (t := 98) tyU98 (tyK98 hand wants rtip ro pur), tyOk_of (t := 99) tyU99 (tyK99 hand wants rtip ro pur), tyOk_of (t := 100) tyU100 (tyK100 hand wants rtip ro pur), tyOk_of (t := 101) tyU101 (tyK101 hand wants rtip ro pur), tyOk_of (t := 102) tyU102 (tyK102 hand wants rtip ro pur), tyOk_of (t := 103) tyU103 (tyK103 hand wants rtip ro pur), tyOk_of (t := 104) tyU104 (tyK104 hand wants rtip ro pur), tyOk_of (t := 105) tyU105 (tyK105 hand wants rtip ro pur), tyOk_of (t := 106) tyU106 (tyK106 hand wants rtip ro pur), tyOk_of (t := 107) tyU107 (tyK107 hand wants rtip ro pur), trivial⟩
theorem tyCsk : allTT (fun t y => TyOk (cfgOf hand wants rtip ro pur) t y) 16 tyCs 0 := ⟨by decide, tyCk0 hand wants rtip ro pur, by decide, tyCk1 hand wants rtip ro pur, by decide, tyCk2 hand wants rtip ro pur, by decide, tyCk3 hand wants rtip ro pur, by decide, tyCk4 hand wants rtip ro pur, by decide, tyCk5 hand wants rtip ro pur, by decide, tyCk6 hand wants rtip ro pur, trivial⟩
theorem fnN2 : (Tryd.f2.name == "runtime.NumGoroutine") = false ∧ Tryd.f2.body.isSome = true := ⟨by kernel_rfl, by kernel_rfl⟩
theorem fnN3 : (Tryd.f3.name == "runtime.NumGoroutine") = false ∧ Tryd.f3.body.isSome = true := ⟨by kernel_rfl, by kernel_rfl⟩
theorem fnN4 : (Tryd.f4.name == "runtime.NumGoroutine") = false ∧ Tryd.f4.body.isSome = true := ⟨by kernel_rfl, by kernel_rfl⟩
theorem fnN5 : (Tryd.f5.name == "runtime.NumGoroutine") = false ∧ Tryd.f5.body.isSome = true := ⟨by kernel_rfl, by kernel_rfl⟩
theorem fnN6 : (Tryd.f6.name == "runtime.NumGoroutine") = false ∧ Tryd.f6.body.isSome = true := ⟨by kernel_rfl, by kernel_rfl⟩
theorem fnN7 : (Tryd.f7.name == "runtime.NumGoroutine") = false ∧ Tryd.f7.body.isSome = true := ⟨by kernel_rfl, by kernel_rfl⟩
theorem fnN8 : (Tryd.f8.name == "runtime.NumGoroutine") = false ∧ Tryd.f8.body.isSome = true := ⟨by kernel_rfl, by kernel_rfl⟩
theorem fnN9 : (Tryd.f9.name == "runtime.NumGoroutine") = false ∧ Tryd.f9.body.isSome = true := ⟨by kernel_rfl, by kernel_rfl⟩
theorem fnN10 : (Tryd.f10.name == "runtime.NumGoroutine") = false ∧ Tryd.f10.body.isSome = true := ⟨by kernel_rfl, by kernel_rfl⟩
theorem fnN11 : (Tryd.f11.name == "runtime.NumGoroutine") = false ∧ Tryd.f11.body.isSome = true := ⟨by kernel_rfl, by kernel_rfl⟩
theorem fnN12 : (Tryd.f12.name == "runtime.NumGoroutine") = false ∧ Tryd.f12.body.isSome = true := ⟨by kernel_rfl, by kernel_rfl⟩
theorem fnN13 : (Tryd.f13.name == "runtime.NumGoroutine") = false ∧ Tryd.f13.body.isSome = true := ⟨by kernel_rfl, by kernel_rfl⟩
theorem fnN14 : (Tryd.f14.name == "runtime.NumGoroutine") = false ∧ Tryd.f14.body.isSome = true := ⟨by kernel_rfl, by kernel_rfl⟩
theorem fnN15 : (Tryd.f15.name == "runtime.NumGoroutine") = false ∧ Tryd.f15.body.isSome = true := ⟨by kernel_rfl, by kernel_rfl⟩
theorem fnN16 : (Tryd.f16.name == "runtime.NumGoroutine") = false ∧ Tryd.f16.body.isSome = true := ⟨by kernel_rfl, by kernel_rfl⟩
theorem fnN17 : (Tryd.f17.name == "runtime.NumGoroutine") = false ∧ Tryd.f17.body.isSome = true := ⟨by kernel_rfl, by kernel_rfl⟩
theorem fnN18 : (Tryd.f18.name == "runtime.NumGoroutine") = false ∧ Tryd.f18.body.isSome = true := ⟨by kernel_rfl, by kernel_rfl⟩
theorem fnN19 : (Tryd.f19.name == "runtime.NumGoroutine") = false ∧ Tryd.f19.body.isSome = true := ⟨by kernel_rfl, by kernel_rfl⟩
theorem fnN20 : (Tryd.f20.name == "runtime.NumGoroutine") = false ∧ Tryd.f20.body.isSome = true := ⟨by kernel_rfl, by kernel_rfl⟩
theorem fnN21 : (Tryd.f21.name == "runtime.NumGoroutine") = false ∧ Tryd.f21.body.isSome = true := ⟨by kernel_rfl, by kernel_rfl⟩
theorem fnN22 : (Tryd.f22.name == "runtime.NumGoroutine") = false ∧ Tryd.f22.body.isSome = true := ⟨by kernel_rfl, by kernel_rfl⟩
theorem fnN23 : (Tryd.f23.name == "runtime.NumGoroutine") = false ∧ Tryd.f23.body.isSome = true := ⟨by kernel_rfl, by kernel_rfl⟩
theorem fnN24 : (Tryd.f24.name == "runtime.NumGoroutine") = false ∧ Tryd.f24.body.isSome = true := ⟨by kernel_rfl, by kernel_rfl⟩
theorem fnN25 : (Tryd.f25.name == "runtime.NumGoroutine") = false ∧ Tryd.f25.body.isSome = true := ⟨by kernel_rfl, by kernel_rfl⟩
theorem fnN26 : (Tryd.f26.name == "runtime.NumGoroutine") = false ∧ Tryd.f26.body.isSome = true := ⟨by kernel_rfl, by kernel_rfl⟩
theorem fnN27 : (Tryd.f27.name == "runtime.NumGoroutine") = false ∧ Tryd.f27.body.isSome = true := ⟨by kernel_rfl, by kernel_rfl⟩
theorem fnN28 : (Tryd.f28.name == "runtime.NumGoroutine") = false ∧ Tryd.f28.body.isSome = true := ⟨by kernel_rfl, by kernel_rfl⟩
theorem fnN29 : (Tryd.f29.name == "runtime.NumGoroutine") = false ∧ Tryd.f29.body.isSome = true := ⟨by kernel_rfl, by kernel_rfl⟩
theorem fnN30 : (Tryd.f30.name == "runtime.NumGoroutine") = false ∧ Tryd.f30.body.isSome = true := ⟨by kernel_rfl, by kernel_rfl⟩
theorem fnN31 : (Tryd.f31.name == "runtime.NumGoroutine") = false ∧ Tryd.f31.body.isSome = true := ⟨by kernel_rfl, by kernel_rfl⟩
theorem fnN32 : (Tryd.f32.name == "runtime.NumGoroutine") = false ∧ Tryd.f32.body.isSome = true := ⟨by kernel_rfl, by kernel_rfl⟩
theorem fnN33 : (Tryd.f33.name == "runtime.NumGoroutine") = false ∧ Tryd.f33.body.isSome = true := ⟨by kernel_rfl, by kernel_rfl⟩
theorem fnN34 : (Tryd.f34.name == "runtime.NumGoroutine") = false ∧ Tryd.f34.body.isSome = true := ⟨by kernel_rfl, by kernel_rfl⟩
theorem fnN35 : (Tryd.f35.name == "runtime.NumGoroutine") = false ∧ Tryd.f35.body.isSome = true := ⟨by kernel_rfl, by kernel_rfl⟩
theorem fnN36 : (Tryd.f36.name == "runtime.NumGoroutine") = false ∧ Tryd.f36.body.isSome = true := ⟨by kernel_rfl, by kernel_rfl⟩
theorem fnN37 : (Tryd.f37.name == "runtime.NumGoroutine") = false ∧ Tryd.f37.body.isSome = true := ⟨by kernel_rfl, by kernel_rfl⟩
theorem fnN38 : (Tryd.f38.name == "runtime.NumGoroutine") = false ∧ Tryd.f38.body.isSome = true := ⟨by kernel_rfl, by kernel_rfl⟩
theorem fnN39 : (Tryd.f39.name == "runtime.NumGoroutine") = false ∧ Tryd.f39.body.isSome = true := ⟨by kernel_rfl, by kernel_rfl⟩
theorem fnN40 : (Tryd.f40.name == "runtime.NumGoroutine") = false ∧ Tryd.f40.body.isSome = true := ⟨by kernel_rfl, by kernel_rfl⟩
theorem fnN41 : (Tryd.f41.name == "runtime.NumGoroutine") = false ∧ Tryd.f41.body.isSome = true := ⟨by kernel_rfl, by kernel_rfl⟩
theorem fnN42 : (Tryd.f42.name == "runtime.NumGoroutine") = false ∧ Tryd.f42.body.isSome = true := ⟨by kernel_rfl, by kernel_rfl⟩
theorem fnN43 : (Tryd.f43.name == "runtime.NumGoroutine") = false ∧ Tryd.f43.body.isSome = true := ⟨by kernel_rfl, by kernel_rfl⟩
theorem fnN44 : (Tryd.f44.name == "runtime.NumGoroutine") = false ∧ Tryd.f44.body.isSome = true := ⟨by kernel_rfl, by kernel_rfl⟩
theorem fnN45 : (Tryd.f45.name == "runtime.NumGoroutine") = false ∧ Tryd.f45.body.isSome = true := ⟨by kernel_rfl, by kernel_rfl⟩
theorem fnN46 : (Tryd.f46.name == "runtime.NumGoroutine") = false ∧ Tryd.f46.body.isSome = true := ⟨by kernel_rfl, by kernel_rfl⟩
theorem fnN47 : (Tryd.f47.name == "runtime.NumGoroutine") = false ∧ Tryd.f47.body.isSome = true := ⟨by kernel_rfl, by kernel_rfl⟩
theorem fnN48 : (Tryd.f48.name == "runtime.NumGoroutine") = false ∧ Tryd.f48.body.isSome = true := ⟨by kernel_rfl, by kernel_rfl⟩
theorem fnN49 : (Tryd.f49.name == "runtime.NumGoroutine") = false ∧ Tryd.f49.body.isSome = true := ⟨by kernel_rfl, by kernel_rfl⟩
theorem fnN50 : (Tryd.f50.name == "runtime.NumGoroutine") = false ∧ Tryd.f50.body.isSome = true := ⟨by kernel_rfl, by kernel_rfl⟩
theorem fnN51 : (Tryd.f51.name == "runtime.NumGoroutine") = false ∧ Tryd.f51.body.isSome = true := ⟨by kernel_rfl, by kernel_rfl⟩
theorem fnN52 : (Tryd.f52.name == "runtime.NumGoroutine") = false ∧ Tryd.f52.body.isSome = true := ⟨by kernel_rfl, by kernel_rfl⟩
theorem fnN53 : (Tryd.f53.name == "runtime.NumGoroutine") = false ∧ Tryd.f53.body.isSome = true := ⟨by kernel_rfl, by kernel_rfl⟩
theorem fnN54 : (Tryd.f54.name == "runtime.NumGoroutine") = false ∧ Tryd.f54.body.isSome = true := ⟨by kernel_rfl, by kernel_rfl⟩
theorem fnN55 : (Tryd.f55.name == "runtime.NumGoroutine") = false ∧ Tryd.f55.body.isSome = true := ⟨by kernel_rfl, by kernel_rfl⟩
theorem fnN56 : (Tryd.f56.name == "runtime.NumGoroutine") = false ∧ Tryd.f56.body.isSome = true := ⟨by kernel_rfl, by kernel_rfl⟩
theorem fnN57 : (Tryd.f57.name == "runtime.NumGoroutine") = false ∧ Tryd.f57.body.isSome = true := ⟨by kernel_rfl, by kernel_rfl⟩
theorem fnN58 : (Tryd.f58.name == "runtime.NumGoroutine") = false ∧ Tryd.f58.body.isSome = true := ⟨by kernel_rfl, by kernel_rfl⟩
theorem fnN60 : (Tryd.f60.name == "runtime.NumGoroutine") = false ∧ Tryd.f60.body.isSome = true := ⟨by kernel_rfl, by kernel_rfl⟩
theorem fnN61 : (Tryd.f61.name == "runtime.NumGoroutine") = false ∧ Tryd.f61.body.isSome = true := ⟨by kernel_rfl, by kernel_rfl⟩
theorem fnN62 : (Tryd.f62.name == "runtime.NumGoroutine") = false ∧ Tryd.f62.body.isSome = true := ⟨by kernel_rfl, by kernel_rfl⟩
theorem fnN64 : (Tryd.f64.name == "runtime.NumGoroutine") = false ∧ Tryd.f64.body.isSome = true := ⟨by kernel_rfl, by kernel_rfl⟩
theorem fnN65 : (Tryd.f65.name == "runtime.NumGoroutine") = false ∧ Tryd.f65.body.isSome = true := ⟨by kernel_rfl, by kernel_rfl⟩
theorem fnN66 : (Tryd.f66.name == "runtime.NumGoroutine") = false ∧ Tryd.f66.body.isSome = true := ⟨by kernel_rfl, by kernel_rfl⟩
theorem fnN67 : (Tryd.f67.name == "runtime.NumGoroutine") = false ∧ Tryd.f67.body.isSome = true := ⟨by kernel_rfl, by kernel_rfl⟩
theorem fnN68 : (Tryd.f68.name == "runtime.NumGoroutine") = false ∧ Tryd.f68.body.isSome = true := ⟨by kernel_rfl, by kernel_rfl⟩
theorem fnN69 : (Tryd.f69.name == "runtime.NumGoroutine") = false ∧ Tryd.f69.body.isSome = true := ⟨by kernel_rfl, by kernel_rfl⟩
theorem fnN71 : (Tryd.f71.name == "runtime.NumGoroutine") = false ∧ Tryd.f71.body.isSome = true := ⟨by kernel_rfl, by kernel_rfl⟩
def FnOk (f : FuncId) (x : Func) : Prop := Tryd.prog.funcs[f]? = some x ∧ x.name ≠ "runtime.NumGoroutine" ∧ x.body.isSome = true
theorem fnOk {f : FuncId} {x : Func} (h1 : Tryd.prog.funcs[f]? = some x) (h2 : (x.name == "runtime.NumGoroutine") = false ∧ x.body.isSome = true) : FnOk f x := ⟨h1, by simpa using h2.1, h2.2⟩
theorem fnCk0 : allT FnOk fnC0 (0 * 16) := ⟨fnOk (f := 2) Tryd.func2 fnN2, fnOk (f := 3) Tryd.func3 fnN3, fnOk (f := 4) Tryd.func4 fnN4, fnOk (f := 5) Tryd.func5 fnN5, fnOk (f := 6) Tryd.func6 fnN6, fnOk (f := 7) Tryd.func7 fnN7, fnOk (f := 8) Tryd.func8 fnN8, fnOk (f := 9) Tryd.func9 fnN9, fnOk (f := 10) Tryd.func10 fnN10, fnOk (f := 11) Tryd.func11 fnN11, fnOk (f := 12) Tryd.func12 fnN12, fnOk (f := 13) Tryd.func13 fnN13, fnOk (f := 14) Tryd.func14 fnN14, fnOk (f := 15) Tryd.func15 fnN15, trivial⟩
theorem fnCk1 : allT FnOk fnC1 (1 * 16) := ⟨fnOk (f := 16) Tryd.func16 fnN16, fnOk (f := 17) Tryd.func17 fnN17, fnOk (f := 18) Tryd.func18 fnN18, fnOk (f := 19) Tryd.func19 fnN19, fnOk (f := 20) Tryd.func20 fnN20, fnOk (f := 21) Tryd.func21 fnN21, fnOk (f := 22) Tryd.func22 fnN22, fnOk (f := 23) Tryd.func23 fnN23, fnOk (f := 24) Tryd.func24 fnN24, fnOk (f := 25) Tryd.func25 fnN25, fnOk (f := 26) Tryd.func26 fnN26, fnOk (f := 27) Tryd.func27 fnN27, fnOk (f := 28) Tryd.func28 fnN28, fnOk (f := 29) Tryd.func29 fnN29, fnOk (f := 30) Tryd.func30 fnN30, fnOk (f := 31) Tryd.func31 fnN31, trivial⟩
theorem fnCk2 : allT FnOk fnC2 (2 * 16) := ⟨fnOk (f := 32) Tryd.func32 fnN32, fnOk (f := 33) Tryd.func33 fnN33, fnOk (f := 34) Tryd.func34 fnN34, fnOk (f := 35) Tryd.func35 fnN35, fnOk (f := 36) Tryd.func36 fnN36, fnOk (f := 37) Tryd.func37 fnN37, fnOk (f := 38) Tryd.func38 fnN38, fnOk (f := 39) Tryd.func39 fnN39, fnOk (f := 40) Tryd.func40 fnN40, fnOk (f := 41) Tryd.func41 fnN41, fnOk (f := 42) Tryd.func42 fnN42, fnOk (f := 43) Tryd.func43 fnN43, fnOk (f := 44) Tryd.func44 fnN44, fnOk (f := 45) Tryd.func45 fnN45, fnOk (f := 46) Tryd.func46 fnN46, fnOk (f := 47) Tryd.func47 fnN47, trivial⟩
theorem fnCk3 : allT FnOk fnC3 (3 * 16) := ⟨fnOk (f := 48) Tryd.func48 fnN48, fnOk (f := 49) Tryd.func49 fnN49, fnOk (f := 50) Tryd.func50 fnN50, fnOk (f := 51) Tryd.func51 fnN51, fnOk (f := 52) Tryd.func52 fnN52, fnOk (f := 53) Tryd.func53 fnN53, fnOk (f := 54) Tryd.func54 fnN54, fnOk (f := 55) Tryd.func55 fnN55, fnOk (f := 56) Tryd.func56 fnN56, fnOk (f := 57) Tryd.func57 fnN57, fnOk (f := 58) Tryd.func58 fnN58, fnOk (f := 60) Tryd.func60 fnN60, fnOk (f := 61) Tryd.func61 fnN61, fnOk (f := 62) Tryd.func62 fnN62, trivial⟩
theorem fnCk4 : allT FnOk fnC4 (4 * 16) := ⟨fnOk (f := 64) Tryd.func64 fnN64, fnOk (f := 65) Tryd.func65 fnN65, fnOk (f := 66) Tryd.func66 fnN66, fnOk (f := 67) Tryd.func67 fnN67, fnOk (f := 68) Tryd.func68 fnN68, fnOk (f := 69) Tryd.func69 fnN69, fnOk (f := 71) Tryd.func71 fnN71, trivial⟩
theorem fnCk5 : allT FnOk fnC5 (5 * 16) := trivial
theorem fnCsk : allTT FnOk 16 fnCs 0 := ⟨by decide, fnCk0, by decide, fnCk1, by decide, fnCk2, by decide, fnCk3, by decide, fnCk4, by decide, fnCk5, trivial⟩
theorem cfgOk (hro : ∀ f x, ro f = true → fnT f = some x → ∀ b, x.body = some b → roCode (cfgOf hand wants rtip ro pur) b = true) : CfgOk (cfgOf hand wants rtip ro pur) := ⟨fun t y h => table_get (by decide) (tyCsk hand wants rtip ro pur) h, fun f x h => table_get (by decide) fnCsk h, by kernel_rfl, fun _ => rfl, hro⟩
end
end Go.Proofs.YtmhhcoccfojiiaaDoor
