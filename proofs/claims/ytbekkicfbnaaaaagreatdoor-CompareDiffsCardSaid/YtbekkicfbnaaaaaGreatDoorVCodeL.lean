/- The images of some of the program's functions. No condition. -/
import Derived.Test.YtbekkicfbnaaaaaGreatDoorVCodeK
import Derived.Test.YtbekkicfbnaaaaaGreatDoorVAbsR
set_option linter.all false
set_option maxRecDepth 100000
namespace Go.Abs
open Go.Proofs
abbrev n_law20_lives : Nat := 11
def i_law20_lives:=ymI Tryz.func11 0
abbrev n_law20_few : Nat := 9
def i_law20_few:=ymI Tryz.func9 2
abbrev n_law20_CompareCosts : Nat := 3
def i_law20_CompareCosts:=ymI Tryz.func3 3
abbrev n_law20_CompareDiffs : Nat := 5
abbrev n_compare_Cost : Nat := 8
def i_compare_Cost:=ymI Tryz.func8 2 [[0,0,1,0,7,15,31],[0,1,2,3,4,5],[0,0,1,0,0,12,28,63,0,128,511,0,1024,4095,0,8192,32767,0,90112,262143,524287],[0,1,2,3,4,5,6,7,8,9,10,11,12,13,14,15,16,17,18,19]]
abbrev n_compare_Compare : Nat := 12
def i_compare_Compare:=ymI Tryz.func12 3
abbrev n_compare_Diff : Nat := 16
def i_compare_Diff:=ymI Tryz.func16 2 [[0,0,0,3,7,15,31,0,0,255,511,1023,2047,63,8191,16383,32767],[0,1,2,3,4,5,6,7,8,9,10,11,12,13,14,15]]
abbrev n_compare_Weight : Nat := 15
def i_compare_Weight:=ymI Tryz.func15 1
abbrev n_compare_rules : Nat := 22
def i_compare_rules:=ymI Tryz.func22 1
abbrev n_compare_places : Nat := 23
def i_compare_places:=ymI Tryz.func23 1
abbrev n_compare_verdict : Nat := 25
def i_compare_verdict:=ymI Tryz.func25 2 [[0,0,0,3,0,0,31,63,127,255,511,511,1023,4095],[0,1,2,3,4,5,6,7,8,9,10,11,12]]
abbrev n_compare_truth : Nat := 39
def i_compare_truth:=ymI Tryz.func39 1
abbrev n_ref20_Cost : Nat := 10
def i_ref20_Cost:=ymI Tryz.func10 2
abbrev n_ref20_size : Nat := 24
def i_ref20_size:=ymI Tryz.func24 1
abbrev n_dom_each : Nat := 59
def i_dom_each:=ymE Tryz.func59 [] [9999999] 1
abbrev n_dom_each_1 : Nat := 96
def i_dom_each_1:=ymE Tryz.func96 [0] [97] 2
abbrev n_dom_walk : Nat := 97
def i_dom_walk:=ymE Tryz.func97 [2] [97,131,1000002] 3
abbrev n_dom_Weight : Nat := 38
abbrev k_dom_Weight : List Nat := [2,3]
def c_dom_Weight : RImg :=
  ⟨[.reg [mi 2 0] [0,2],.reg [o1 3 (.alc [.int .i64 0]),o0 (.st 1 (.t 3) (.v (.int .i64 0)))] [0,2,3],.reg [m 6 0,ch 7 59 [6]] [2,3,7]],(.t 7),[8,9],Q [.reg [m 4 8] [2,3,4,9],
  .reg [m 5 9] [2,3,4,5]],.block 1 (.regD [l1 10 3,m 11 4,m 12 5,ia 13 11 12 5,fa 14 13 2,l1 15 14,lq 16 15,o1 17 (.bin .add (.v (.int .i64 1)) (.t 16)),bt 18 .add 10 17,st 1 3 18] [2,3]),[.reg [l1 19 3,m 2 19] [2],.ret],[.t 2]⟩
theorem i_dom_Weight : imageR Tryz.prog Tryz.f38 [59] k_dom_Weight [[0,2],[0,2,3],[2,3,7],[2,3,4,9],[2,3,4,5],[0,0,0,0,6,14,30,62,126,255,511],[0,1,2,3,4,5,6,7,8,9],[2,3],[2]] 1 = some c_dom_Weight := by kernel_rfl
end Go.Abs
