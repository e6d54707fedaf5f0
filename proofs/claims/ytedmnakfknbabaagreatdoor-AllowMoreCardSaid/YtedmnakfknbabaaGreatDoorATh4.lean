/- Sets of states, plainly: as eight words of 64 bits. No condition. -/
import Derived.Test.YtedmnakfknbabaaGreatDoorATh3
import Derived.Lib.TrailingZeros
import Derived.Laws.Bits64b
import Derived.Lib.Bytealg
set_option linter.all false
set_option maxHeartbeats 0
set_option maxRecDepth 100000
open Option renaming not_isSome→zAa
open List renaming map_map→zAb,not_mem_nil→zAd,mem_cons→zAe
open UInt8 renaming ofNat→zAc
section
namespace Go.Aut
def je(s:List Nat)(q:Nat):Bool:=(getN s (q/64)).testBit (q%64)
end Go.Aut
end
section
namespace Go.Abs
open Go.Proofs Go.Aut
attribute [-simp] getElem?_pos zAa zAb
section
variable{k off:Nat}{r t:List Nat}(hr:off+8<=r.length)(ht:t.length=8)
include hr ht
end
def rowW(r:List Nat):V:=.strct (r.map tM)
def Lh(t:List (List Nat)):V:=.seq 760 (t.map rowW)
theorem Fp(l:List Bool):ah (l.map V.bool)=[]:=nA (fun _=>rfl) l
theorem IX(hp:List (Option Ob))(l:List Bool):purs hp (l.map V.bool)=some (l.map V.bool):=qA (fun _=>rfl) l
theorem IW(m:List Nat)(l:List Bool):dy m (l.map V.bool)=l.map V.bool:=qx (fun _=>rfl) l
theorem J9(m:List Nat)(l:List Bool):j1 m (l.map V.bool)=l.map V.bool:=rL (fun _=>rfl) l
theorem Gt(l:List Bool):cY (l.map V.bool)=true:=nU (fun _=>rfl) l
attribute [simp] Fp IX IW J9 Gt
attribute [-simp] List.map_set
def of1H(bd:List Bool)(t:List (List Nat))(L:List Nat):List (Option Ob):=[some (.box (bd.map V.bool)),some (.box [Lh t]),some (.box (L.map tM))]
attribute [simp] of1H
attribute [simp] Lh
end Go.Abs
end
section
namespace Go.Abs
open Go.Aut
attribute [-simp] getElem?_pos zAa zAb
end Go.Abs
end
section
namespace Go.Abs
open Go.Proofs Go.Aut
attribute [-simp] getElem?_pos zAa zAb
end Go.Abs
end
section
namespace Go.Abs
open Go.Proofs
def lkD:List (Nat×FD)->Nat->Option FD
 |[],_=>none
 |(k,D)::l,f=>if k=f then some D else lkD l f
theorem Bs{f:Nat}{D:FD}:∀{l:List (Nat×FD)},lkD l f=some D->(f,D)∈l
 |[],h=>by simp[lkD]at h
 |(k,E)::l,h=>by
   simp only[lkD]at h;split at h
   ·rename_i he;subst he;cases h;simp
   ·exact List.mem_cons_of_mem _ (Bs h)
theorem dU(c:UInt8):∀s:Str,Lib.indexByte s c<(s.length:Int)+1/\(0<=Lib.indexByte s c->Lib.indexByte s c<s.length)
 |[]=>by simp[Lib.indexByte]
 |b::l=>by
   have:=dU c l;unfold Lib.indexByte;simp only[List.length_cons];split
   ·omega
   ·split
    ·omega
    ·omega
theorem bv(s:Str)(c:UInt8):Fn Tryz.prog be [.str s,.int .u8 c.toNat] (.int .i64 (Lib.indexByte s c)):=by
 refine Fn.ext bT (by kernel_rfl) (by kernel_rfl) (by kernel_rfl) (e:=Extern.BytealgIndexByte.indexByte) (by kernel_rfl) ?_
 intro M w cs hM hus;obtain⟨cl⟩:=cs;simp only[ac]at hus;obtain⟨_,_,rfl,⟨bs,rfl,rfl,_⟩,_,_,rfl,⟨rfl,_⟩,rfl⟩:=hus;refine⟨_,Lib.run_indexByteString bs (c.toNat:Int) w,?_⟩;have hc:((c.toNat:Int)).toNat.toUInt8=c:=by simp
 rw[hc];simp only[rep];have h1:=Lib.indexByte_ge bs.data.toList c;have h2:=dU c bs.data.toList;refine⟨trivial,?_,?_⟩
 ·simp;omega
 ·simp;omega
def K9:List (Nat×FD):=[
 (vr,⟨nf,[.t 2],1,[]⟩),
 (DA,⟨tw,[.t 2],1,[]⟩),
 (xq,⟨oV,[.c 0 95 true],0,[]⟩),
 (vp,⟨nc,[.c 2 95 true],1,[]⟩),
 (qF,⟨jD,[.c 2 95 true],1,[]⟩),
 (vq,⟨nd,[.t 2],1,[]⟩),
 (n8,⟨gZ,[.t 4],2,[]⟩),
 (b9,⟨bp,[.t 4],2,[]⟩)]
def Lb:List (Nat×FD):=[
 (aB,⟨oW,[.t 2,.t 3],1,[]⟩),
 (cN,⟨eu,[.c 2 4 true],1,[]⟩),
 (oD,⟨jU,[.t 2],1,[]⟩),
 (iK,⟨dL,[.t 2,.t 3],1,[0]⟩),
 (kU,⟨fo,[.t 2,.t 3],1,[0]⟩),
 (pM,⟨i8,[.t 4],2,[0]⟩),
 (mI,⟨gB,[.t 2,.t 3],1,[0]⟩),
 (mH,⟨gA,[.t 4,.t 5],2,[0]⟩),
 (l4,⟨fx,[.t 2,.t 3],1,[0]⟩),
 (d5,⟨cu,[],4,[0]⟩),
 (gb,⟨dM,[.t 2],1,[0]⟩),
 (gV,⟨d9,[],3,[0]⟩),
 (lB,⟨gN,[],4,[1]⟩),
 (lD,⟨gP,[],4,[1]⟩),
 (lE,⟨gQ,[],4,[1]⟩),
 (lC,⟨gO,[],4,[1]⟩),
 (kf,⟨fH,[.t 4],2,[0]⟩)]
def QW(f:FuncId)(us:List V):Option V:=if f=be then(match us with
 |[.str s,.int .u8 n]=>if(zAc n.toNat).toNat=n then some (.int .i64 (Lib.indexByte s (zAc n.toNat)))else none
 |_=>none)else none
def uU:FTab:=⟨lkD K9,lkD Lb,QW⟩
theorem K8:∀x∈K9,Img Tryz.prog x.1 x.2/\x.2.ps=[]:=by
 intro x hx;simp only[K9,zAe,zAd,or_false]at hx;rcases hx with rfl|rfl|rfl|rfl|rfl|rfl|rfl|rfl
 ·exact⟨Img.of_image wb vN,rfl⟩
 ·exact⟨Img.of_image Ed DZ,rfl⟩
 ·exact⟨Img.of_image ym xQ,rfl⟩
 ·exact⟨Img.of_image v8 vL,rfl⟩
 ·exact⟨Img.of_image qT qQ,rfl⟩
 ·exact⟨Img.of_image wa vM,rfl⟩
 ·exact⟨Img.of_image oo oh,rfl⟩
 ·exact⟨Img.of_image cd cc,rfl⟩
theorem La:∀x∈Lb,Img Tryz.prog x.1 x.2:=by
 intro x hx;simp only[Lb,zAe,zAd,or_false]at hx;rcases hx with rfl|rfl|rfl|rfl|rfl|rfl|rfl|rfl|rfl|rfl|rfl|rfl|rfl|rfl|rfl|rfl|rfl
 ·exact Img.of_imageE yn xR
 ·exact Img.of_imageE iU iR
 ·exact Img.of_image oK oI
 ·exact Img.of_imageE iT iQ
 ·exact Img.of_imageE k7 kZ
 ·exact Img.of_imageE pW pR
 ·exact Img.of_imageE mU mR
 ·exact Img.of_imageE mT mQ
 ·exact Img.of_imageE l8 l6
 ·exact Img.of_imageE d8 d7
 ·exact Img.of_imageE gr gn
 ·exact Img.of_imageE gX gW
 ·exact Img.of_imageE lK lG
 ·exact Img.of_imageE lM lI
 ·exact Img.of_imageE lN lJ
 ·exact Img.of_imageE lL lH
 ·exact Img.of_imageE ko ki
theorem ig:TabOK Tryz.prog uU:=by
 refine⟨fun f D h=>K8 _ (Bs h),fun f D h=>La _ (Bs h),fun f us r h=>?_⟩;simp only[uU,QW]at h;split at h
 ·rename_i hf
  subst hf;split at h
  ·split at h
   ·rename_i s n hn
    cases h;have:=bv s (zAc n.toNat);rwa[hn]at this
   ·cases h
  ·cases h
 ·cases h
end Go.Abs
end
