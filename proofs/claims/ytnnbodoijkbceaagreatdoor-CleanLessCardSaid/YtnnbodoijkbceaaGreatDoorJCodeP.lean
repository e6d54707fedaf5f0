/- The images of some of the program's functions, as the kernel reckons them. No condition. -/
import Derived.Test.YtnnbodoijkbceaaGreatDoorJCodeW
set_option linter.all false
set_option maxHeartbeats 0
set_option maxRecDepth 100000
namespace Go.Abs
open Go.Proofs
abbrev dc:Nat:=93
def dd:=ymE Tryz.func93 [] [126] 2
abbrev iG:Nat:=148
def iK:=ymE Tryz.func148 [] [126,3000014] 2
abbrev iF:Nat:=233
def iJ:=ymE Tryz.func233 [] [126,234] 2
abbrev eG:Nat:=94
def eH:=ymE Tryz.func94 [] [9999999] 1 [[0,0,1,3,7,15,0,32,96,224,480,1023,2047],[0,1,2,3,4,5,6,7,8,9,10,11]]
abbrev kw:Nat:=234
def kx:=ymE Tryz.func234 [] [235,3000012] 2
abbrev fy:Nat:=235
def fA:=ymE Tryz.func235 [] [3000024,3000049,3000077,3000010] 2
abbrev Im:Nat:=232
def IP:=ymE Tryz.func232 [] [148,233,94,1000003000005] 1
abbrev Bx:Nat:=250
def B7:=ymE Tryz.func250 [] [93,148,233,94,1000003000005] 1
abbrev Bw:Nat:=125
def B6:=ymE Tryz.func125 [] [93,148,94,1000005000005] 2
abbrev K9:Nat:=258
def Lq:=ymE Tryz.func258 [] [3000007] 1
abbrev Ip:Nat:=263
def IS:=ymE Tryz.func263 [] [270] 1
abbrev Fa:Nat:=270
def FK:=ymE Tryz.func270 [] [9999999] 0
abbrev La:Nat:=255
def Lr:=ymI Tryz.func255 1
abbrev Bv:Nat:=262
def B5:=ymI Tryz.func262 4
abbrev Fb:Nat:=269
def FL:=ymI Tryz.func269 2
abbrev vA:Nat:=268
def vJ:=ymI Tryz.func268 1
abbrev y9:Nat:=251
def zD:=ymI Tryz.func251 1
abbrev y6:Nat:=256
def zA:=ymI Tryz.func256 1
abbrev E9:Nat:=259
def FJ:=ymI Tryz.func259 2
abbrev Bs:Nat:=259
def B0:=ymE Tryz.func259 [1] [9999999] 2
abbrev oH:Nat:=266
def oY:=ymE Tryz.func266 [1] [9999999] 2
abbrev Bq:Nat:=257
def BZ:=ymI Tryz.func257 1
abbrev xA:Nat:=264
def xJ:=ymI Tryz.func264 1
abbrev qK:Nat:=260
def qP:=ymI Tryz.func260 1
abbrev tO:Nat:=261
def t7:=ymE Tryz.func261 [] [5000064] 1
abbrev qN:Nat:=265
def qS:=ymI Tryz.func265 1
abbrev qM:Nat:=266
def qR:=ymI Tryz.func266 2
abbrev qL:Nat:=267
def qQ:=ymI Tryz.func267 1
abbrev xB:Nat:=253
def xK:=ymI Tryz.func253 1
abbrev y7:Nat:=252
def zB:=ymI Tryz.func252 1
abbrev so:Nat:=249
def sB:=ymI Tryz.func249 1
abbrev In:Nat:=248
def IQ:=ymI Tryz.func248 1
abbrev tN:Nat:=254
def t6:=ymE Tryz.func254 [] [9999999] 1
abbrev y8:Nat:=247
def zC:=ymE Tryz.func247 [] [1000001] 1
end Go.Abs
