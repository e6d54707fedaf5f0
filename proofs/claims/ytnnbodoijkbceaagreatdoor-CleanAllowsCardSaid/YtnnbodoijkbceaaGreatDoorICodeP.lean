/- The images of some of the program's functions, as the kernel reckons them. No condition. -/
import Derived.Test.YtnnbodoijkbceaaGreatDoorICodeW
set_option linter.all false
set_option maxHeartbeats 0
set_option maxRecDepth 100000
namespace Go.Abs
open Go.Proofs
abbrev dD:Nat:=93
def dE:=ymE Tryz.func93 [] [126] 2
abbrev jq:Nat:=148
def jv:=ymE Tryz.func148 [] [126,3000014] 2
abbrev jp:Nat:=233
def ju:=ymE Tryz.func233 [] [126,234] 2
abbrev fp:Nat:=94
def fq:=ymE Tryz.func94 [] [9999999] 1 [[0,0,1,3,7,15,0,32,96,224,480,1023,2047],[0,1,2,3,4,5,6,7,8,9,10,11]]
abbrev lC:Nat:=234
def lD:=ymE Tryz.func234 [] [235,3000012] 2
abbrev gr:Nat:=235
def gu:=ymE Tryz.func235 [] [3000024,3000049,3000077,3000010] 2
abbrev MJ:Nat:=232
def Nk:=ymE Tryz.func232 [] [148,233,94,1000003000005] 1
abbrev D7:Nat:=250
def ET:=ymE Tryz.func250 [] [93,148,233,94,1000003000005] 1
abbrev D6:Nat:=125
def ER:=ymE Tryz.func125 [] [93,148,94,1000005000005] 2
abbrev P7:Nat:=258
def Qp:=ymE Tryz.func258 [] [3000007] 1
abbrev MN:Nat:=263
def Nn:=ymE Tryz.func263 [] [270] 1
abbrev IS:Nat:=270
def JD:=ymE Tryz.func270 [] [9999999] 0
abbrev P8:Nat:=255
def Qq:=ymI Tryz.func255 1
abbrev D5:Nat:=262
def EQ:=ymI Tryz.func262 4
abbrev IT:Nat:=269
def JE:=ymI Tryz.func269 2
abbrev xO:Nat:=268
def xZ:=ymI Tryz.func268 1
abbrev BH:Nat:=251
def Cb:=ymI Tryz.func251 1
abbrev BE:Nat:=256
def B8:=ymI Tryz.func256 1
abbrev IR:Nat:=259
def JC:=ymI Tryz.func259 2
abbrev D2:Nat:=259
def EM:=ymE Tryz.func259 [1] [9999999] 2
abbrev qi:Nat:=266
def qy:=ymE Tryz.func266 [1] [9999999] 2
abbrev D1:Nat:=257
def EL:=ymI Tryz.func257 1
abbrev Aa:Nat:=264
def Aj:=ymI Tryz.func264 1
abbrev sj:Nat:=260
def su:=ymI Tryz.func260 1
abbrev vI:Nat:=261
def vW:=ymE Tryz.func261 [] [5000064] 1
abbrev sq:Nat:=265
def sA:=ymI Tryz.func265 1
abbrev so:Nat:=266
def sy:=ymI Tryz.func266 2
abbrev sl:Nat:=267
def sx:=ymI Tryz.func267 1
abbrev Ab:Nat:=253
def Ak:=ymI Tryz.func253 1
abbrev BF:Nat:=252
def B9:=ymI Tryz.func252 1
abbrev ur:Nat:=249
def uB:=ymI Tryz.func249 1
abbrev ML:Nat:=248
def Nl:=ymI Tryz.func248 1
abbrev vH:Nat:=254
def vV:=ymE Tryz.func254 [] [9999999] 1
abbrev BG:Nat:=247
def Ca:=ymE Tryz.func247 [] [1000001] 1
end Go.Abs
