/- What the program's functions for texts, patterns,. -/
import Derived.Test.YtedmnakfknbabaaGreatDoorPF1
import Derived.Test.YtedmnakfknbabaaGreatDoorPW0
import Derived.Test.YtedmnakfknbabaaGreatDoorPP1
import Derived.Lib.IndexMore
set_option linter.all false
set_option maxHeartbeats 0
open List renaming reduceReplicate→zAa
set_option maxRecDepth 100000
namespace Go.Abs.F
open Go.Proofs
attribute [-simp] getElem?_pos Option.not_isSome List.map_map
theorem jn(s t:Str)(hs:s.length<4294967281):Fn Tryz.prog ww [.str s,.str t] (.int .i64 (Lib.index s t)):=by
 refine Fn.of_image mixed wM wE rfl fun ho=>?_;unfold nB;simp only[oks,ok,and_true]at ho;clear ho;simp(disch:=omega) [-zAa];refine ac (p6 s t hs) rfl fun _=>?_;simp(disch:=omega) [-zAa]
end Go.Abs.F
