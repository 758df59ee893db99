/- The example that each law looks at first. -/
import Derived.Test.YtmhhcoccfojiiaaDoorSayG
import Derived.Test.YtmhhcoccfojiiaaDoorFnsC
namespace Go.Proofs.YtmhhcoccfojiiaaDoor
open Go.Ev Go

def awakeText : Bs := [116, 101, 120, 116, 47, 112, 108, 97, 105, 110, 59, 32, 99, 104, 97, 114, 115, 101, 116, 61, 34, 97, 32, 98, 34, 59, 32, 120, 42, 49, 61, 99, 59, 32, 120, 42, 48, 42, 61, 39, 39, 37, 52, 49]
def awakePs : Ps := [([99, 104, 97, 114, 115, 101, 116], [97, 32, 98]), ([120], [65, 99])]

theorem parse_awake : parseF awakeText true = some ([116, 101, 120, 116], [112, 108, 97, 105, 110], awakePs) := by decide +kernel
theorem parse_none : parseF [116, 101, 120, 116] true = none := by decide +kernel
theorem get_awake : getF awakePs [88] = some [65, 99] := by decide +kernel
theorem quoted_awake : quotedF [97, 34] = [34, 97, 92, 34, 34] := by decide +kernel

theorem ret7 : Ret 7 [] [] (.bool true, []) := by
  refine M7 ?_
  have h8 := ret8 awakeText (by decide) true
  rw [parse_awake] at h8
  have h8' := ret8 [116, 101, 120, 116] (by decide) true
  rw [parse_none] at h8'
  have h10 := ret10 [116, 101, 120, 116] [112, 108, 97, 105, 110] awakePs (by decide) (by decide) [88] (by decide)
  rw [get_awake] at h10
  have h14 := ret14 [97, 34] (by decide)
  rw [quoted_awake] at h14
  simp only [T7]
  refine evt_bind h8 ?_
  refine evt_bind h10 ?_
  refine evt_bind h8' ?_
  refine evt_bind h14 ?_
  exact evt_some _
end Go.Proofs.YtmhhcoccfojiiaaDoor
