/- Functions of the library whose contracts the kit holds: told as contracts of the abstract machine. No condition. -/
import Derived.Test.YtedmnakfknbabaaGreatDoorACodeD
import Derived.Shelf.Strings.Search2
import Derived.Shelf.Unicode.ValidAny
import Derived.Lib.IndexBytes
import Derived.Lib.ValidU
import Derived.Test.YtedmnakfknbabaaGreatDoorAG1
import Derived.Test.YtedmnakfknbabaaGreatDoorRows
import Derived.KernelRfl
import Derived.Lib.LaidTab
import Derived.Lib.LaidU8T
import Derived.PinnedBridge
import Derived.Deep.DeepHandedRow
set_option linter.all false
set_option maxHeartbeats 0
set_option maxRecDepth 100000
open Nat renaming mod_eq_of_lt→zAa
open List renaming getElem?_eq_some_iff→zAb
open Option renaming some→zAc
section
namespace Go.Abs.F
open Go.Proofs Go.RowKit
abbrev bc:Nat:=118
abbrev dE:Nat:=110
def Dl:Go.Shelf.Ren:=⟨fun x=>match x with|219=>118|217=>128|225=>129|224=>130|267=>131|266=>138|314=>139|n=>n,fun x=>match x with|9=>9|3=>3|4=>4|5=>5|46=>171|146=>197|51=>196|n=>n,fun x=>match x with|1=>2|n=>n⟩
theorem Jp:Lays.n219 Tryz.prog Dl where
 mixed:=by kernel_rfl
 f217:=Tryz.func128.trans (congrArg some (by kernel_rfl))
 f219:=Tryz.func118.trans (congrArg some (by kernel_rfl))
 f224:=Tryz.func130.trans (congrArg some (by kernel_rfl))
 f225:=Tryz.func129.trans (congrArg some (by kernel_rfl))
 f266:=Tryz.func138.trans (congrArg some (by kernel_rfl))
 f267:=Tryz.func131.trans (congrArg some (by kernel_rfl))
 f314:=Tryz.func139.trans (congrArg some (by kernel_rfl))
 t3:=Tryz.underlying3
 a3:=Tryz.isAgg3
 z3:=Tryz.sizeOf3
 v3:=Tryz.zeroValue3
 t4:=Tryz.underlying4
 a4:=Tryz.isAgg4
 z4:=Tryz.sizeOf4
 v4:=Tryz.zeroValue4
 t5:=Tryz.underlying5
 a5:=Tryz.isAgg5
 z5:=Tryz.sizeOf5
 v5:=Tryz.zeroValue5
 t9:=Tryz.underlying9
 a9:=Tryz.isAgg9
 z9:=Tryz.sizeOf9
 v9:=Tryz.zeroValue9
 t46:=Tryz.underlying171
 a46:=Tryz.isAgg171
 z46:=Tryz.sizeOf171
 v46:=Tryz.zeroValue171
 t51:=Tryz.underlying196
 a51:=Tryz.isAgg196
 z51:=Tryz.sizeOf196
 v51:=Tryz.zeroValue196
 t146:=Tryz.underlying197
 a146:=Tryz.isAgg197
 z146:=Tryz.sizeOf197
 v146:=Tryz.zeroValue197
 g1:=by kernel_rfl
def Dm:Go.Shelf.Ren:=⟨fun x=>match x with|196=>110|259=>126|n=>n,fun x=>match x with|9=>9|4=>4|3=>3|5=>5|12=>12|119=>167|0=>0|46=>171|139=>170|138=>169|53=>195|n=>n,fun x=>match x with|3=>0|4=>1|n=>n⟩
theorem zZ:Lays.n196 Tryz.prog Dm where
 mixed:=by kernel_rfl
 f196:=Tryz.func110.trans (congrArg some (by kernel_rfl))
 f259:=Tryz.func126.trans (congrArg some (by kernel_rfl))
 t0:=Tryz.underlying0
 a0:=Tryz.isAgg0
 z0:=Tryz.sizeOf0
 v0:=Tryz.zeroValue0
 t3:=Tryz.underlying3
 a3:=Tryz.isAgg3
 z3:=Tryz.sizeOf3
 v3:=Tryz.zeroValue3
 t4:=Tryz.underlying4
 a4:=Tryz.isAgg4
 z4:=Tryz.sizeOf4
 v4:=Tryz.zeroValue4
 t5:=Tryz.underlying5
 a5:=Tryz.isAgg5
 z5:=Tryz.sizeOf5
 v5:=Tryz.zeroValue5
 t9:=Tryz.underlying9
 a9:=Tryz.isAgg9
 z9:=Tryz.sizeOf9
 v9:=Tryz.zeroValue9
 t12:=Tryz.underlying12
 a12:=Tryz.isAgg12
 z12:=Tryz.sizeOf12
 v12:=Tryz.zeroValue12
 t46:=Tryz.underlying171
 a46:=Tryz.isAgg171
 z46:=Tryz.sizeOf171
 v46:=Tryz.zeroValue171
 t53:=Tryz.underlying195
 a53:=Tryz.isAgg195
 z53:=Tryz.sizeOf195
 v53:=Tryz.zeroValue195
 t119:=Tryz.underlying167
 a119:=Tryz.isAgg167
 z119:=Tryz.sizeOf167
 t138:=Tryz.underlying169
 a138:=Tryz.isAgg169
 z138:=Tryz.sizeOf169
 v138:=Tryz.zeroValue169
 t139:=Tryz.underlying170
 a139:=Tryz.isAgg170
 z139:=Tryz.sizeOf170
 v139:=Tryz.zeroValue170
 g3:=by kernel_rfl
 g4:=by kernel_rfl
theorem ov(s t:List UInt8)(hs:s.length<4294967281):Fn Tryz.prog bc [.str s,.str t] (.int .i64 (Lib.index s t)):=by
 refine FnE.fn { call:=fun args w=>enters_of (f:=bc) Jp.f219 (by kernel_rfl) rfl args w,does:=?_ }
 intro M w cs hM hus;obtain⟨cl⟩:=cs;simp only[ac]at hus;obtain⟨_,_,rfl,⟨b1,rfl,rfl,_⟩,_,_,rfl,⟨b2,rfl,rfl,_⟩,rfl⟩:=hus;obtain⟨m,hm⟩:=hM.gl.2 (Dl.g 1) (by decide)
 refine(Any.stringslite_Index Jp b1 b2 m w (by simpa using hs) (hM.snd _ _ hm)).mono ?_
 rintro e w' ⟨rfl,rfl⟩;have h1:=Lib.index_ge b1.data.toList b2.data.toList;have h2:=Lib.index_le b1.data.toList b2.data.toList;refine⟨_,M,rfl,?_,Below.refl _ _,hM.snd,fun _ _ h=>h,fun _ _ h=>.inl h⟩;simp only[rep];refine⟨trivial,?_,?_⟩
 ·simp;omega
 ·simp;omega
theorem p3(s:List UInt8)(hs:s.length<=4611686018427387904):Fn Tryz.prog dE [.str s] (.bool (Lib.validD s)):=by
 refine FnE.fn { call:=fun args w=>enters_of (f:=dE) zZ.f196 (by kernel_rfl) rfl args w,does:=?_ }
 intro M w cs hM hus;obtain⟨cl⟩:=cs;simp only[ac]at hus;obtain⟨_,_,rfl,⟨b1,rfl,rfl,_⟩,rfl⟩:=hus
 have hg:∀(g:Nat)(j:Nat)(n:Nat),(GLt g)[j]?=some n->w.cell? ⟨g,j,none⟩=some (GLv n):=by
  intro g j n h;refine hM.snd _ _ (hM.gl.1 _ _ ?_);simp[GL,h]
 have hT:Lib.Utf8Tabs (Dm.g 3) (Dm.g 4) w:=by
  have t1:∀c,c<256->(GLt (Dm.g 3))[c]?=some (Lib.firstT c):=by decide
  have t2:∀i,i<16->(GLt (Dm.g 4))[2*i]?=some (Lib.accLo i)/\(GLt (Dm.g 4))[2*i+1]?=some (Lib.accHi i):=by decide
  have b1:∀c,c<256->Lib.firstT c<256:=by decide
  have b2:∀i,i<16->Lib.accLo i<256/\Lib.accHi i<256:=by decide
  refine⟨fun c hc=>?_,fun i hi=>⟨?_,?_⟩⟩
  ·rw[hg _ c _ (t1 c hc)]
   simp only[GLv,zAa (b1 c hc)]
  ·rw[hg _ _ _ (t2 i hi).1]
   simp only[GLv,zAa (b2 i hi).1]
  ·rw[hg _ _ _ (t2 i hi).2]
   simp only[GLv,zAa (b2 i hi).2]
 refine(Any.utf8_ValidString zZ b1 w (by have h9:b1.size=b1.data.toList.length:=(by simp);omega) hT).mono ?_
 rintro e w' ⟨rfl,hb⟩;refine⟨_,M,rfl,by simp[rep],hb,fun p v h=>?_,fun _ _ h=>h,fun _ _ h=>.inl h⟩
 exact(hb.cell (World.block_lt_of_cell? w p (hM.snd p v h))).trans (hM.snd p v h)
end Go.Abs.F
end
section
namespace Go.Proofs.YtedmnakfknbabaaGreatDoor
open Go.Abs Go.Abs.F
theorem own:ownKnob Tryz.prog.godebug=none:=by kernel_rfl
theorem P3:laidOutB Tryz.prog=true:=by kernel_rfl
def tyS:List TypeId:=[uq,bC,au,ep,dr,ax,kJ,ak,gF,c9,cF,kL,aG,cK,iB,zh]
theorem Iw:tyS.all (nN Tryz.prog tyS)=true:=by kernel_rfl
theorem O9:U8Extra Tryz.prog Dm:=⟨by kernel_rfl,by kernel_rfl,by kernel_rfl,by kernel_rfl,by kernel_rfl,by kernel_rfl,by kernel_rfl⟩
theorem Bv{P:Program}{w:World}{g:Nat}{t:TypeId}{zero:Array Value}(h:w.ShapedOpen P)(hg:g<P.globals.size)
 (h0:((begin P (fun _ _=>0) default).world.heap[g]?).bind Obj.row?=some (zero,t)) (hz:zero.size=1)
 (hb:P.buildable t=true) (hc:P.cellTypes P.depth t=some [t]) (hu:P.underlying t=some (.int .i64)):∃m,w.cell? ⟨g,0,none⟩=some (.int .i64 m):=by
 obtain⟨cs,hh,hs,hr⟩:=h.1 g zero t hg h0;obtain⟨ts,hts,_,hall⟩:=hr hb;rw[hc]at hts;cases hts;have h1:0<cs.size:=by omega
 obtain⟨u,hu',hok⟩:=hall 0 cs[0] (by simp[h1])
 have:u=t:=by simpa using hu'.symm
 subst this;have hcell:w.cell? ⟨g,0,none⟩=some cs[0]:=by simp[World.cell?,hh,h1]
 rw[hcell];unfold Cell.ok at hok;rw[hu]at hok;cases hv:cs[0]<;>rw[hv]at hok<;>first|exact⟨_,by rw[hok.1]⟩|simp at hok
theorem NZ{n:Nat}(h0:n≠Dm.g 3)(h1:n≠Dm.g 4):GLt n=[]:=by
 have e0:((0:Nat) == n)=false:=by simpa using fun e:0=n=>h0 e.symm
 have e1:((1:Nat) == n)=false:=by simpa using fun e:1=n=>h1 e.symm
 simp[GLt,GLs,e0,e1]
theorem table{W:World}(h:laidMet Tryz.prog [("unicode/utf8.acceptRanges",Rows.laid_unicode_utf8_acceptRanges),("unicode/utf8.first",Rows.laid_unicode_utf8_first)] W)(hS:W.ShapedOpen Tryz.prog):Fc (fun p=>W.cell? p):=by
 have h3:Lib.VarReads Tryz.prog W "unicode/utf8.first" Lib.firstData:=by
  have:=Lib.laidMet.reads h (n:= "unicode/utf8.first") (d:=Rows.laid_unicode_utf8_first) (by simp)
  rwa[show Rows.laid_unicode_utf8_first=Lib.firstData from Pinned.utf8First_eq]at this
 have h4:Lib.VarReads Tryz.prog W "unicode/utf8.acceptRanges" Lib.acceptData:=by
  have:=Lib.laidMet.reads h (n:= "unicode/utf8.acceptRanges") (d:=Rows.laid_unicode_utf8_acceptRanges) (by simp)
  rwa[show Rows.laid_unicode_utf8_acceptRanges=Lib.acceptData by kernel_rfl]at this
 have hT:Lib.Utf8Tabs (Dm.g 3) (Dm.g 4) W:=utf8Tabs_of_readsT (U8Types.of196 zZ) O9 h3 h4;refine⟨fun p v hp=>?_,fun b hb=>?_⟩
 ·unfold GL at hp
  split at hp
  ·rename_i e
   by_cases h0:p.block=Dm.g 3
   ·rw[h0]at hp e
    cases hi:(GLt (Dm.g 3))[p.off]? with
    |none=>rw[hi]at hp;cases hp
    |some n=>
      rw[hi]at hp
      have hlt:p.off<256:=by
       have:=(zAb.1 hi).1;have hl:(GLt (Dm.g 3)).length=256:=by decide
       omega
      have t1:∀c,c<256->(GLt (Dm.g 3))[c]?=some (Lib.firstT c):=by decide
      have b1:∀c,c<256->Lib.firstT c<256:=by decide
      have hn:n=Lib.firstT p.off:=by
       have:=t1 p.off hlt;rw[hi]at this;exact zAc.inj this
      have h9:GLv n=v:=by simpa using hp
      show W.cell? p=_
      rw[e,hT.1 _ hlt,<-h9,hn];simp only[GLv,zAa (b1 _ hlt)]
   ·by_cases h1:p.block=Dm.g 4
    ·rw[h1]at hp e
     cases hi:(GLt (Dm.g 4))[p.off]? with
     |none=>rw[hi]at hp;cases hp
     |some n=>
       rw[hi]at hp
       have hlt:p.off<32:=by
        have:=(zAb.1 hi).1;have hl:(GLt (Dm.g 4)).length=32:=by decide
        omega
       have t2:∀i,i<16->(GLt (Dm.g 4))[2*i]?=some (Lib.accLo i)/\(GLt (Dm.g 4))[2*i+1]?=some (Lib.accHi i):=by decide
       have b2:∀i,i<16->Lib.accLo i<256/\Lib.accHi i<256:=by decide
       have h9:GLv n=v:=by simpa using hp
       show W.cell? p=_
       obtain⟨i,hi16,hio⟩:∃i,i<16/\(p.off=2*i\/p.off=2*i+1):=⟨p.off/2,by omega,by omega⟩
       rw[e,<-h9];rcases hio with hio|hio
       ·have hn:n=Lib.accLo i:=by
         have:=(t2 i hi16).1;rw[<-hio,hi]at this;exact zAc.inj this
        rw[hio,(hT.2 i hi16).1,hn];simp only[GLv,zAa (b2 i hi16).1]
       ·have hn:n=Lib.accHi i:=by
         have:=(t2 i hi16).2;rw[<-hio,hi]at this;exact zAc.inj this
        rw[hio,(hT.2 i hi16).2,hn];simp only[GLv,zAa (b2 i hi16).2]
    ·rw[NZ h0 h1]at hp;simp at hp
  ·cases hp
 ·obtain rfl:b=Dl.g 1:=by simpa[GLm,Dl]using hb
  exact Bv (t:=bC) (zero:=#[.int .i64 0]) hS (of_decide_eq_true (by kernel_rfl)) (by kernel_rfl) rfl (by kernel_rfl) (by kernel_rfl) (by kernel_rfl)
theorem Gu{p:Policy}(h:p.fits):∀e∈p.elements,∀r∈e.rules,r.value.regex.length<=1125899906842624:=fun e he r hr=>by
 have:=((h.2.2.1 e he).2.2.2.1 r hr).2.2.2;unfold reachBytes at this;omega
end Go.Proofs.YtedmnakfknbabaaGreatDoor
end
