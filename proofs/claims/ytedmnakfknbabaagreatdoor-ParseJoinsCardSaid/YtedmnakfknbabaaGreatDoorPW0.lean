/- Functions of the library whose contracts the kit h. -/
import Derived.Test.YtedmnakfknbabaaGreatDoorPCodeD
import Derived.Shelf.Strings.Search2
import Derived.Shelf.Unicode.ValidAny
import Derived.Lib.IndexBytes
import Derived.Lib.ValidU
import Derived.Test.YtedmnakfknbabaaGreatDoorPG1
import Derived.Test.YtedmnakfknbabaaGreatDoorRows
import Derived.KernelRfl
import Derived.Lib.LaidTab
import Derived.Lib.LaidU8T
import Derived.PinnedBridge
import Derived.Deep.DeepHandedRow
set_option linter.all false
set_option maxHeartbeats 0
set_option maxRecDepth 100000
open Nat renaming mod_eq_of_lt→zAa
open List renaming getElem?_eq_some_iff→zAb
open Option renaming some→zAc
section
namespace Go.Abs.F
open Go.Proofs Go.RowKit
abbrev co:Nat:=118
abbrev eG:Nat:=110
def Fw:Go.Shelf.Ren:=⟨fun x=>match x with|219=>118|217=>128|225=>129|224=>130|267=>131|266=>138|314=>139|n=>n,fun x=>match x with|9=>9|3=>3|4=>4|5=>5|46=>171|146=>197|51=>196|n=>n,fun x=>match x with|1=>2|n=>n⟩
theorem L1:Lays.n219 Tryz.prog Fw where
 mixed:=by kernel_rfl
 f217:=Tryz.func128.trans (congrArg some (by kernel_rfl))
 f219:=Tryz.func118.trans (congrArg some (by kernel_rfl))
 f224:=Tryz.func130.trans (congrArg some (by kernel_rfl))
 f225:=Tryz.func129.trans (congrArg some (by kernel_rfl))
 f266:=Tryz.func138.trans (congrArg some (by kernel_rfl))
 f267:=Tryz.func131.trans (congrArg some (by kernel_rfl))
 f314:=Tryz.func139.trans (congrArg some (by kernel_rfl))
 t3:=Tryz.underlying3
 a3:=Tryz.isAgg3
 z3:=Tryz.sizeOf3
 v3:=Tryz.zeroValue3
 t4:=Tryz.underlying4
 a4:=Tryz.isAgg4
 z4:=Tryz.sizeOf4
 v4:=Tryz.zeroValue4
 t5:=Tryz.underlying5
 a5:=Tryz.isAgg5
 z5:=Tryz.sizeOf5
 v5:=Tryz.zeroValue5
 t9:=Tryz.underlying9
 a9:=Tryz.isAgg9
 z9:=Tryz.sizeOf9
 v9:=Tryz.zeroValue9
 t46:=Tryz.underlying171
 a46:=Tryz.isAgg171
 z46:=Tryz.sizeOf171
 v46:=Tryz.zeroValue171
 t51:=Tryz.underlying196
 a51:=Tryz.isAgg196
 z51:=Tryz.sizeOf196
 v51:=Tryz.zeroValue196
 t146:=Tryz.underlying197
 a146:=Tryz.isAgg197
 z146:=Tryz.sizeOf197
 v146:=Tryz.zeroValue197
 g1:=by kernel_rfl
def Fx:Go.Shelf.Ren:=⟨fun x=>match x with|196=>110|259=>126|n=>n,fun x=>match x with|9=>9|4=>4|3=>3|5=>5|12=>12|119=>167|0=>0|46=>171|139=>170|138=>169|53=>195|n=>n,fun x=>match x with|3=>0|4=>1|n=>n⟩
theorem B0:Lays.n196 Tryz.prog Fx where
 mixed:=by kernel_rfl
 f196:=Tryz.func110.trans (congrArg some (by kernel_rfl))
 f259:=Tryz.func126.trans (congrArg some (by kernel_rfl))
 t0:=Tryz.underlying0
 a0:=Tryz.isAgg0
 z0:=Tryz.sizeOf0
 v0:=Tryz.zeroValue0
 t3:=Tryz.underlying3
 a3:=Tryz.isAgg3
 z3:=Tryz.sizeOf3
 v3:=Tryz.zeroValue3
 t4:=Tryz.underlying4
 a4:=Tryz.isAgg4
 z4:=Tryz.sizeOf4
 v4:=Tryz.zeroValue4
 t5:=Tryz.underlying5
 a5:=Tryz.isAgg5
 z5:=Tryz.sizeOf5
 v5:=Tryz.zeroValue5
 t9:=Tryz.underlying9
 a9:=Tryz.isAgg9
 z9:=Tryz.sizeOf9
 v9:=Tryz.zeroValue9
 t12:=Tryz.underlying12
 a12:=Tryz.isAgg12
 z12:=Tryz.sizeOf12
 v12:=Tryz.zeroValue12
 t46:=Tryz.underlying171
 a46:=Tryz.isAgg171
 z46:=Tryz.sizeOf171
 v46:=Tryz.zeroValue171
 t53:=Tryz.underlying195
 a53:=Tryz.isAgg195
 z53:=Tryz.sizeOf195
 v53:=Tryz.zeroValue195
 t119:=Tryz.underlying167
 a119:=Tryz.isAgg167
 z119:=Tryz.sizeOf167
 t138:=Tryz.underlying169
 a138:=Tryz.isAgg169
 z138:=Tryz.sizeOf169
 v138:=Tryz.zeroValue169
 t139:=Tryz.underlying170
 a139:=Tryz.isAgg170
 z139:=Tryz.sizeOf170
 v139:=Tryz.zeroValue170
 g3:=by kernel_rfl
 g4:=by kernel_rfl
theorem p6(s t:List UInt8)(hs:s.length<4294967281):Fn Tryz.prog co [.str s,.str t] (.int .i64 (Lib.index s t)):=by
 refine FnE.fn { call:=fun args w=>enters_of (f:=co) L1.f219 (by kernel_rfl) rfl args w,does:=?_ }
 intro M w cs hM hus;obtain⟨cl⟩:=cs;simp only[ae]at hus;obtain⟨_,_,rfl,⟨b1,rfl,rfl,_⟩,_,_,rfl,⟨b2,rfl,rfl,_⟩,rfl⟩:=hus;obtain⟨m,hm⟩:=hM.gl.2 (Fw.g 1) (by decide)
 refine(Any.stringslite_Index L1 b1 b2 m w (by simpa using hs) (hM.snd _ _ hm)).mono ?_
 rintro e w' ⟨rfl,rfl⟩;have h1:=Lib.index_ge b1.data.toList b2.data.toList;have h2:=Lib.index_le b1.data.toList b2.data.toList;refine⟨_,M,rfl,?_,Below.refl _ _,hM.snd,fun _ _ h=>h,fun _ _ h=>.inl h⟩;simp only[rep];refine⟨trivial,?_,?_⟩
 ·simp;omega
 ·simp;omega
theorem rI(s:List UInt8)(hs:s.length<=4611686018427387904):Fn Tryz.prog eG [.str s] (.bool (Lib.validD s)):=by
 refine FnE.fn { call:=fun args w=>enters_of (f:=eG) B0.f196 (by kernel_rfl) rfl args w,does:=?_ }
 intro M w cs hM hus;obtain⟨cl⟩:=cs;simp only[ae]at hus;obtain⟨_,_,rfl,⟨b1,rfl,rfl,_⟩,rfl⟩:=hus
 have hg:∀(g:Nat)(j:Nat)(n:Nat),(GLt g)[j]?=some n->w.cell? ⟨g,j,none⟩=some (GLv n):=by
  intro g j n h;refine hM.snd _ _ (hM.gl.1 _ _ ?_);simp[GL,h]
 have hT:Lib.Utf8Tabs (Fx.g 3) (Fx.g 4) w:=by
  have t1:∀c,c<256->(GLt (Fx.g 3))[c]?=some (Lib.firstT c):=by decide
  have t2:∀i,i<16->(GLt (Fx.g 4))[2*i]?=some (Lib.accLo i)/\(GLt (Fx.g 4))[2*i+1]?=some (Lib.accHi i):=by decide
  have b1:∀c,c<256->Lib.firstT c<256:=by decide
  have b2:∀i,i<16->Lib.accLo i<256/\Lib.accHi i<256:=by decide
  refine⟨fun c hc=>?_,fun i hi=>⟨?_,?_⟩⟩
  ·rw[hg _ c _ (t1 c hc)]
   simp only[GLv,zAa (b1 c hc)]
  ·rw[hg _ _ _ (t2 i hi).1]
   simp only[GLv,zAa (b2 i hi).1]
  ·rw[hg _ _ _ (t2 i hi).2]
   simp only[GLv,zAa (b2 i hi).2]
 refine(Any.utf8_ValidString B0 b1 w (by have h9:b1.size=b1.data.toList.length:=(by simp);omega) hT).mono ?_
 rintro e w' ⟨rfl,hb⟩;refine⟨_,M,rfl,by simp[rep],hb,fun p v h=>?_,fun _ _ h=>h,fun _ _ h=>.inl h⟩
 exact(hb.cell (World.block_lt_of_cell? w p (hM.snd p v h))).trans (hM.snd p v h)
end Go.Abs.F
end
section
namespace Go.Proofs.YtedmnakfknbabaaGreatDoor
open Go.Abs Go.Abs.F
theorem own:ownKnob Tryz.prog.godebug=none:=by kernel_rfl
theorem Dr:laidOutB Tryz.prog=true:=by kernel_rfl
def tyS:List TypeId:=[sb,CJ,gY,xy,kW,vk,sc,nP,nq,qc,dE,mB,aN,bm,iK,jT]
theorem uc:tyS.all (py Tryz.prog tyS)=true:=by kernel_rfl
theorem Rx:U8Extra Tryz.prog Fx:=⟨by kernel_rfl,by kernel_rfl,by kernel_rfl,by kernel_rfl,by kernel_rfl,by kernel_rfl,by kernel_rfl⟩
theorem Dv{P:Program}{w:World}{g:Nat}{t:TypeId}{zero:Array Value}(h:w.ShapedOpen P)(hg:g<P.globals.size)
 (h0:((begin P (fun _ _=>0) default).world.heap[g]?).bind Obj.row?=some (zero,t)) (hz:zero.size=1)
 (hb:P.buildable t=true) (hc:P.cellTypes P.depth t=some [t]) (hu:P.underlying t=some (.int .i64)):∃m,w.cell? ⟨g,0,none⟩=some (.int .i64 m):=by
 obtain⟨cs,hh,hs,hr⟩:=h.1 g zero t hg h0;obtain⟨ts,hts,_,hall⟩:=hr hb;rw[hc]at hts;cases hts;have h1:0<cs.size:=by omega
 obtain⟨u,hu',hok⟩:=hall 0 cs[0] (by simp[h1])
 have:u=t:=by simpa using hu'.symm
 subst this;have hcell:w.cell? ⟨g,0,none⟩=some cs[0]:=by simp[World.cell?,hh,h1]
 rw[hcell];unfold Cell.ok at hok;rw[hu]at hok;cases hv:cs[0]<;>rw[hv]at hok<;>first|exact⟨_,by rw[hok.1]⟩|simp at hok
theorem Qr{n:Nat}(h0:n≠Fx.g 3)(h1:n≠Fx.g 4):GLt n=[]:=by
 have e0:((0:Nat) == n)=false:=by simpa using fun e:0=n=>h0 e.symm
 have e1:((1:Nat) == n)=false:=by simpa using fun e:1=n=>h1 e.symm
 simp[GLt,GLs,e0,e1]
theorem NT{W:World}(h:laidMet Tryz.prog [("unicode/utf8.acceptRanges",Rows.laid_unicode_utf8_acceptRanges),("unicode/utf8.first",Rows.laid_unicode_utf8_first)] W)(hS:W.ShapedOpen Tryz.prog):HZ (fun p=>W.cell? p):=by
 have h3:Lib.VarReads Tryz.prog W "unicode/utf8.first" Lib.firstData:=by
  have:=Lib.laidMet.reads h (n:= "unicode/utf8.first") (d:=Rows.laid_unicode_utf8_first) (by simp)
  rwa[show Rows.laid_unicode_utf8_first=Lib.firstData from Pinned.utf8First_eq]at this
 have h4:Lib.VarReads Tryz.prog W "unicode/utf8.acceptRanges" Lib.acceptData:=by
  have:=Lib.laidMet.reads h (n:= "unicode/utf8.acceptRanges") (d:=Rows.laid_unicode_utf8_acceptRanges) (by simp)
  rwa[show Rows.laid_unicode_utf8_acceptRanges=Lib.acceptData by kernel_rfl]at this
 have hT:Lib.Utf8Tabs (Fx.g 3) (Fx.g 4) W:=utf8Tabs_of_readsT (U8Types.of196 B0) Rx h3 h4;refine⟨fun p v hp=>?_,fun b hb=>?_⟩
 ·unfold GL at hp
  split at hp
  ·rename_i e
   by_cases h0:p.block=Fx.g 3
   ·rw[h0]at hp e
    cases hi:(GLt (Fx.g 3))[p.off]? with
    |none=>rw[hi]at hp;cases hp
    |some n=>
      rw[hi]at hp
      have hlt:p.off<256:=by
       have:=(zAb.1 hi).1;have hl:(GLt (Fx.g 3)).length=256:=by decide
       omega
      have t1:∀c,c<256->(GLt (Fx.g 3))[c]?=some (Lib.firstT c):=by decide
      have b1:∀c,c<256->Lib.firstT c<256:=by decide
      have hn:n=Lib.firstT p.off:=by
       have:=t1 p.off hlt;rw[hi]at this;exact zAc.inj this
      have h9:GLv n=v:=by simpa using hp
      show W.cell? p=_
      rw[e,hT.1 _ hlt,<-h9,hn];simp only[GLv,zAa (b1 _ hlt)]
   ·by_cases h1:p.block=Fx.g 4
    ·rw[h1]at hp e
     cases hi:(GLt (Fx.g 4))[p.off]? with
     |none=>rw[hi]at hp;cases hp
     |some n=>
       rw[hi]at hp
       have hlt:p.off<32:=by
        have:=(zAb.1 hi).1;have hl:(GLt (Fx.g 4)).length=32:=by decide
        omega
       have t2:∀i,i<16->(GLt (Fx.g 4))[2*i]?=some (Lib.accLo i)/\(GLt (Fx.g 4))[2*i+1]?=some (Lib.accHi i):=by decide
       have b2:∀i,i<16->Lib.accLo i<256/\Lib.accHi i<256:=by decide
       have h9:GLv n=v:=by simpa using hp
       show W.cell? p=_
       obtain⟨i,hi16,hio⟩:∃i,i<16/\(p.off=2*i\/p.off=2*i+1):=⟨p.off/2,by omega,by omega⟩
       rw[e,<-h9];rcases hio with hio|hio
       ·have hn:n=Lib.accLo i:=by
         have:=(t2 i hi16).1;rw[<-hio,hi]at this;exact zAc.inj this
        rw[hio,(hT.2 i hi16).1,hn];simp only[GLv,zAa (b2 i hi16).1]
       ·have hn:n=Lib.accHi i:=by
         have:=(t2 i hi16).2;rw[<-hio,hi]at this;exact zAc.inj this
        rw[hio,(hT.2 i hi16).2,hn];simp only[GLv,zAa (b2 i hi16).2]
    ·rw[Qr h0 h1]at hp;simp at hp
  ·cases hp
 ·obtain rfl:b=Fw.g 1:=by simpa[GLm,Fw]using hb
  exact Dv (t:=CJ) (zero:=#[.int .i64 0]) hS (of_decide_eq_true (by kernel_rfl)) (by kernel_rfl) rfl (by kernel_rfl) (by kernel_rfl) (by kernel_rfl)
theorem Ow{u:V}(h:HasTy Tryz.prog jT u):∃b:Str,u=.seq 1 (b.map bV)/\b.length<=1125899906842624:=by
 obtain⟨m,rfl,h5,h6⟩:=HasTy.seq_of (e:=iK) (sz:=1) (by kernel_rfl) h
 obtain⟨b,rfl,_⟩:=sj (f:=bV) (Q:=fun _=>True) (l:=m) fun x hx=>by
  obtain⟨n,rfl,h1,h2⟩:=HasTy.int_of (k:=.u8) (by kernel_rfl) (h5 x hx)
  have h3:(0:Int)<=n:=h1;have h4:n<=255:=h2;refine⟨UInt8.ofNat n.toNat,?_,trivial⟩;rw[i9,UInt8.toNat_ofNat',zAa (by omega),Int.toNat_of_nonneg h3]
 refine⟨b,rfl,?_⟩;unfold reachBytes at h6;rw[List.length_map]at h6;omega
end Go.Proofs.YtedmnakfknbabaaGreatDoor
end
