/- Functions of the library whose contracts the kit holds: told as contracts of the abstract machine. No condition. -/
import Derived.Test.YtbekkicfbnaaaaaGreatDoorVCodeD
import Derived.Shelf.Strings.Search2
import Derived.Lib.IndexBytes
import Derived.Lib.ValidU
import Derived.Test.YtbekkicfbnaaaaaGreatDoorVG1
import Derived.Test.YtbekkicfbnaaaaaGreatDoorRows
import Derived.KernelRfl
import Derived.Lib.LaidTab
import Derived.Deep.DeepHandedRow
set_option linter.all false section
set_option maxHeartbeats 4000000
set_option maxRecDepth 100000
namespace Go.Abs.F
open Go.Proofs Go.RowKit
end Go.Abs.F
end
section
set_option maxRecDepth 100000
namespace Go.Proofs.YtbekkicfbnaaaaaGreatDoor
open Go.Abs Go.Abs.F
theorem own:ownKnob Tryz.prog.godebug=none:=by kernel_rfl
theorem R7:laidOutB Tryz.prog=true:=by kernel_rfl
def tyS:List TypeId:=[aH,ap,aA,iJ,fJ,fU,sC,cR,mC,aS,bW,sE,aL,bN]
theorem Ed:tyS.all (yg Tryz.prog tyS)=true:=by kernel_rfl
theorem Sc{P:Program}{w:World}{g:Nat}{t:TypeId}{zero:Array Value}(h:w.ShapedOpen P)(hg:g<P.globals.size)
 (h0:((begin P (fun _ _=>0) default).world.heap[g]?).bind Obj.row?=some (zero,t)) (hz:zero.size=1)
 (hb:P.buildable t=true) (hc:P.cellTypes P.depth t=some [t]) (hu:P.underlying t=some (.int .i64)):∃m,w.cell? ⟨g,0,none⟩=some (.int .i64 m):=by
 obtain⟨cs,hh,hs,hr⟩:=h.1 g zero t hg h0;obtain⟨ts,hts,_,hall⟩:=hr hb;rw[hc]at hts;cases hts;have h1:0<cs.size:=by omega
 obtain⟨u,hu',hok⟩:=hall 0 cs[0] (by simp[h1])
 have:u=t:=by simpa using hu'.symm
 subst this;have hcell:w.cell? ⟨g,0,none⟩=some cs[0]:=by simp[World.cell?,hh,h1]
 rw[hcell];unfold Cell.ok at hok;rw[hu]at hok;cases hv:cs[0]<;>rw[hv]at hok<;>first|exact⟨_,by rw[hok.1]⟩|simp at hok
theorem gTab:Tryz.prog.globalNamed "math/bits.deBruijn64tab"=some 0:=by kernel_rfl
theorem afS:(Tryz.prog.globals[0]?).map (·.type)=some 324:=by kernel_rfl
theorem gTabU:Tryz.prog.underlying 324=some (.array 64 c7):=by kernel_rfl
theorem u8U:Tryz.prog.underlying c7=some (.int .u8):=by kernel_rfl
theorem ago:Tryz.prog.cellsOf 324=64:=by kernel_rfl
theorem aiZ:Tryz.prog.cellsOf c7=1:=by kernel_rfl
def tabN:List Nat:=GLt 0
theorem agT{n:Nat}(h:n≠0):GLt n=[]:=by
 have:((0:Nat) == n)=false:=by simpa using fun e:0=n=>h e.symm
 simp[GLt,GLs,this]
theorem aem{W:World}(h:laidMet Tryz.prog [("math/bits.deBruijn64tab",Rows.laid_math_bits_deBruijn64tab)] W)(hS:W.ShapedOpen Tryz.prog):XA (fun p=>W.cell? p):=by
 have ht:Lib.TabIs Tryz.prog W "math/bits.deBruijn64tab" .u8 (tabN.map fun(n:Nat)=>(n:Int)):=
  Lib.tabIs_of_head (rest:=[]) gTab afS gTabU u8U aiZ ago h
 refine⟨fun p v hp=>?_,fun b hb=>?_⟩;unfold GL at hp;split at hp
 ·rename_i e
  by_cases h0:p.block=0
  ·rw[h0]at hp
   cases hi:(GLt 0)[p.off]? with
   |none=>rw[hi]at hp;cases hp
   |some n=>
     rw[hi]at hp
     have hlt:p.off<tabN.length:=by
      rw[List.getElem?_eq_some_iff]at hi;exact hi.1
     have:=ht.cell gTab p.off (by simpa using hlt)
     have e2:p=⟨0,p.off,none⟩:=by rw[<-h0];exact e
     show W.cell? p=_
     rw[e2,this];have h0:GLv n=v:=by simpa using hp
     rw[<-h0];have hn:n<256:=(by decide+kernel:∀m∈tabN,m<256) n (List.mem_of_getElem? hi)
     have hi':tabN[p.off]?=some n:=hi;simp only[GLv,List.getD_eq_getElem?_getD,List.getElem?_map,hi',Option.map_some,Option.getD_some,Nat.mod_eq_of_lt hn]
  ·rw[agT h0]at hp;simp at hp
 ·cases hp
 ·obtain rfl:b=1:=by simpa[GLm]using hb
  exact Sc (t:=ap) (zero:=#[.int .i64 0]) hS (of_decide_eq_true (by kernel_rfl)) (by kernel_rfl) rfl (by kernel_rfl) (by kernel_rfl) (by kernel_rfl)
theorem pf{p:Policy}(h:p.fits):∀e∈p.elements,∀r∈e.rules,r.value.regex.length<=1125899906842624:=fun e he r hr=>by
 have:=((h.2.2.1 e he).2.2.2.1 r hr).2.2.2;unfold reachBytes at this;omega
end Go.Proofs.YtbekkicfbnaaaaaGreatDoor
end
