/- The images of some of the program's functions, as the kernel reckons them. No condition. -/
import Derived.Test.YtnnbodoijkbceaaGreatDoorJCodeS
set_option linter.all false
set_option maxHeartbeats 0
set_option maxRecDepth 100000
namespace Go.Abs
open Go.Proofs
abbrev Fo:Nat:=40
abbrev FA:List Nat:=[2,3]
def jz:RImg:=
 ⟨[.reg [mi 2 0] [0,2],.reg [o1 3 (.alc [.int .i64 0]),o0 (.st 1 (.t 3) (.v (.int .i64 0)))] [0,2,3],.reg [m 6 0,ch 7 52 [6]] [2,3,7]],(.t 7),[8,9],Q [.reg [m 4 8] [2,3,4,9],
 .reg [m 5 9] [2,3,4,5]],.block 1 (.regD [l1 10 3,m 11 4,m 12 5,ia 13 11 12 5,fa 14 13 2,l1 15 14,lq 16 15,o1 17 (.bin .add (.v (.int .i64 1)) (.t 16)),bt 18 .add 10 17,st 1 3 18] [2,3]),[.reg [l1 19 3,m 2 19] [2],.ret],[.t 2]⟩
theorem F0:FG Tryz.prog Tryz.f40 [52] FA [[0,2],[0,2,3],[2,3,7],[2,3,4,9],[2,3,4,5],[0,0,0,0,6,14,30,62,126,255,511],[0,1,2,3,4,5,6,7,8,9],[2,3],[2]] 1=some jz:=by kernel_rfl
end Go.Abs
