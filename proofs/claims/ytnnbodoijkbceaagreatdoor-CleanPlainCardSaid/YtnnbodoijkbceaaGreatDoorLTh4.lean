/-
  Sets of states, plainly: as eight words of 64 bits. No condition.
  What sets of states answer. No condition.
  What is reached from a set by a sign. No condition.
  A net's steps by each sign, and the signs that its edges tell apart. No condition.
  A walk through sets of states. No condition.
  A walk through sets of states: what it answers. No condition.
  What a net's steps and borders are, plainly. No condition.
  A net's automaton. No condition.
  The table of the functions that a closed run goes through, and that it is so. Made by program. No condition.
  The table of the functions that closed runs of parse.Bytes and write.Text go through. Made by program. No condition.
  What parse.Bytes and write.Text answer at the example's texts, by closed runs. No condition.
-/
import Derived.Test.YtnnbodoijkbceaaGreatDoorLTh3
import Derived.Lib.TrailingZeros
import Derived.Laws.Bits64b
import Derived.Lib.Bytealg
import Derived.Test.YtnnbodoijkbceaaGreatDoorLCodeS
import Derived.Test.YtnnbodoijkbceaaGreatDoorLB0
set_option linter.all false
set_option maxHeartbeats 0
set_option maxRecDepth 100000
section
namespace Go.Aut
structure wOK (s:List Nat):Prop where
 len:s.length=8
 lt:∀ w∈s,w < 18446744073709551616
def uK (s:List Nat) (q:Nat):Bool:=(getN s (q / 64)).testBit (q % 64)
end Go.Aut
end
section
namespace Go.Abs
open Go.Proofs Go.Aut
attribute [-simp] getElem?_pos Option.not_isSome List.map_map
section
variable {k off:Nat} {r t:List Nat} (hr:off + 8≤r.length) (ht:t.length=8)
include hr ht
end
def rowW (r:List Nat):V:=.strct (r.map sI)
def IA (t:List (List Nat)):V:=.seq 760 (t.map rowW)
theorem DG (l:List Bool):aj (l.map V.bool)=[]:=mr (fun _=>rfl) l
theorem Gq (hp:List (Option Ob)) (l:List Bool):purs hp (l.map V.bool)=some (l.map V.bool):=pA (fun _=>rfl) l
theorem Gp (m:List Nat) (l:List Bool):di m (l.map V.bool)=l.map V.bool:=px (fun _=>rfl) l
theorem Hv (m:List Nat) (l:List Bool):jd m (l.map V.bool)=l.map V.bool:=qF (fun _=>rfl) l
theorem EC (l:List Bool):c6 (l.map V.bool)=true:=mF (fun _=>rfl) l
attribute [simp] DG Gq Gp Hv EC
attribute [-simp] List.map_set
def of1H (bd:List Bool) (t:List (List Nat)) (L:List Nat):List (Option Ob):=[some (.box (bd.map V.bool)),some (.box [IA t]),some (.box (L.map sI))]
attribute [simp] of1H
attribute [simp] IA
end Go.Abs
end
section
namespace Go.Abs
open Go.Aut
attribute [-simp] getElem?_pos Option.not_isSome List.map_map
end Go.Abs

end
section
namespace Go.Abs
open Go.Proofs Go.Aut
attribute [-simp] getElem?_pos Option.not_isSome List.map_map
end Go.Abs

end
section
namespace Go.Abs
open Go.Proofs
def lkD:List (Nat × FD)→Nat→Option FD
 | [],_=>none
 | (k,D)::l,f=>if k=f then some D else lkD l f
theorem tA {f:Nat} {D:FD}:∀ {l:List (Nat × FD)},lkD l f=some D→(f,D)∈l
 | [],h=>by simp [lkD] at h
 | (k,E)::l,h=>by
   simp only [lkD] at h
   split at h
   · rename_i he; subst he; cases h; simp
   · exact List.mem_cons_of_mem _ (tA h)
theorem eM (c:UInt8):∀ s:Str,Lib.indexByte s c < (s.length:Int) + 1∧(0≤Lib.indexByte s c→Lib.indexByte s c < s.length)
 | []=>by simp [Lib.indexByte]
 | b::l=>by
   have:=eM c l
   unfold Lib.indexByte
   simp only [List.length_cons]
   split
   · omega
   · split
     · omega
     · omega
theorem f_bytealg_IndexByteString (s:Str) (c:UInt8):Fn Tryz.prog a6 [.str s,.int .u8 c.toNat] (.int .i64 (Lib.indexByte s c)):=by
 refine Fn.ext bQ (by kernel_rfl) (by kernel_rfl) (by kernel_rfl) (e:=Extern.BytealgIndexByte.indexByte) (by kernel_rfl) ?_
 intro M w cs hM hus
 obtain ⟨cl⟩:=cs
 simp only [ac] at hus
 obtain ⟨_,_,rfl,⟨bs,rfl,rfl,_⟩,_,_,rfl,⟨rfl,_⟩,rfl⟩:=hus
 refine ⟨_,Lib.run_indexByteString bs (c.toNat:Int) w,?_⟩
 have hc:((c.toNat:Int)).toNat.toUInt8=c:=by simp
 rw [hc]
 simp only [rep]
 have h1:=Lib.indexByte_ge bs.data.toList c
 have h2:=eM c bs.data.toList
 refine ⟨trivial,?_,?_⟩
 · simp; omega
 · simp; omega
def NU (f:FuncId) (us:List V):Option V:=if f=a6 then (match us with
 | [.str s,.int .u8 n]=>if (UInt8.ofNat n.toNat).toNat=n then some (.int .i64 (Lib.indexByte s (UInt8.ofNat n.toNat))) else none
 | _=>none) else none
end Go.Abs
end
section
namespace Go.Abs
open Go.Proofs Go.Abs.F
def tqP:List (Nat × FD):=[
 (dS,⟨nK,[.t 2],1,[]⟩),
 (om,⟨ir,[.t 2],1,[]⟩),
 (ol,⟨iq,[.t 2],1,[]⟩),
 (BV,⟨sx,[.t 2],1,[]⟩),
 (mU,⟨gE,[.t 2],1,[]⟩),
 (D4,⟨vt,[.t 2,.t 3],1,[]⟩),
 (qW,⟨jB,[.t 2],1,[]⟩),
 (zC,⟨qr,[.t 4],2,[]⟩),
 (vU,⟨ny,[.t 8,.t 9],4,[]⟩),
 (mT,⟨gD,[.t 4],2,[]⟩),
 (uo,⟨me,[.t 2],1,[]⟩),
 (BO,⟨sn,[.c 2 4 true,.t 3],1,[]⟩),
 (mS,⟨gC,[.t 2],1,[]⟩),
 (mR,⟨gB,[.t 3],2,[]⟩),
 (mQ,⟨gA,[.t 2],1,[]⟩),
 (mP,⟨gz,[.t 2],1,[]⟩),
 (nk,⟨jb,[.t 2],1,[]⟩),
 (oc,⟨il,[.t 2],1,[]⟩),
 (sL,⟨kE,[.c 2 4 true,.t 3],1,[]⟩),
 (ul,⟨mc,[.c 2 4 true,.t 3],1,[]⟩),
 (uk,⟨ma,[.t 2],1,[]⟩),
 (zA,⟨qp,[.t 4],2,[]⟩),
 (vS,⟨nu,[.t 2],1,[]⟩),
 (sK,⟨kD,[.t 2],1,[]⟩),
 (BP,⟨so,[.t 2,.t 3],1,[]⟩),
 (um,⟨md,[.t 2],1,[]⟩),
 (pH,⟨iV,[.c 2 2 true,.t 3],1,[]⟩),
 (pG,⟨iU,[.c 2 4 true,.t 3],1,[]⟩),
 (rY,⟨l9,[.t 2],1,[]⟩),
 (ut,⟨oP,[.t 2],1,[]⟩),
 (yp,⟨ru,[.t 2],1,[]⟩),
 (pI,⟨kg,[.t 4],2,[]⟩),
 (lB,⟨iu,[.t 4],2,[]⟩),
 (eH,⟨cj,[.t 4],2,[]⟩),
 (gp,⟨dP,[.t 4],2,[]⟩),
 (cc,⟨bf,[.t 4],2,[]⟩),
 (b9,⟨be,[.t 4],2,[]⟩),
 (cN,⟨bz,[.t 4],2,[]⟩),
 (gr,⟨dQ,[.t 4,.t 5],2,[]⟩),
 (pF,⟨kf,[.t 4],2,[]⟩)]
theorem Pj:∀ x∈tqP,Img Tryz.prog x.1 x.2∧x.2.ps=[]:=by
 intro x hx
 simp only [tqP,List.mem_cons,List.not_mem_nil,or_false] at hx
 rcases hx with rfl | rfl | rfl | rfl | rfl | rfl | rfl | rfl | rfl | rfl | rfl | rfl | rfl | rfl | rfl | rfl | rfl | rfl | rfl | rfl | rfl | rfl | rfl | rfl | rfl | rfl | rfl | rfl | rfl | rfl | rfl | rfl | rfl | rfl | rfl | rfl | rfl | rfl | rfl | rfl
 · exact ⟨Img.of_image xl wO,rfl⟩
 · exact ⟨Img.of_image oD ox,rfl⟩
 · exact ⟨Img.of_image oC ow,rfl⟩
 · exact ⟨Img.of_image CE Cm,rfl⟩
 · exact ⟨Img.of_image m8 m1,rfl⟩
 · exact ⟨Img.of_image Er Ek,rfl⟩
 · exact ⟨Img.of_image rg rc,rfl⟩
 · exact ⟨Img.of_image Ao z7,rfl⟩
 · exact ⟨Img.of_image w5 wA,rfl⟩
 · exact ⟨Img.of_image m7 mZ,rfl⟩
 · exact ⟨Img.of_image uP uC,rfl⟩
 · exact ⟨Img.of_image Cw Ce,rfl⟩
 · exact ⟨Img.of_image m6 mY,rfl⟩
 · exact ⟨Img.of_image m5 mX,rfl⟩
 · exact ⟨Img.of_image m4 mW,rfl⟩
 · exact ⟨Img.of_image m3 mV,rfl⟩
 · exact ⟨Img.of_image np nn,rfl⟩
 · exact ⟨Img.of_image oz ot,rfl⟩
 · exact ⟨Img.of_image sY sR,rfl⟩
 · exact ⟨Img.of_image uN uA,rfl⟩
 · exact ⟨Img.of_image uM uz,rfl⟩
 · exact ⟨Img.of_image Am zZ,rfl⟩
 · exact ⟨Img.of_image wY wy,rfl⟩
 · exact ⟨Img.of_image sX sQ,rfl⟩
 · exact ⟨Img.of_imageE Cx Cf,rfl⟩
 · exact ⟨Img.of_imageE uO uB,rfl⟩
 · exact ⟨Img.of_imageE p2 pS,rfl⟩
 · exact ⟨Img.of_imageE p1 pR,rfl⟩
 · exact ⟨Img.of_image sb r9,rfl⟩
 · exact ⟨Img.of_image uU uH,rfl⟩
 · exact ⟨Img.of_image yI yE,rfl⟩
 · exact ⟨Img.of_image p3 pT,rfl⟩
 · exact ⟨Img.of_imageE lQ lL,rfl⟩
 · exact ⟨Img.of_image eQ eN,rfl⟩
 · exact ⟨Img.of_image gw gu,rfl⟩
 · exact ⟨Img.of_image ci cf,rfl⟩
 · exact ⟨Img.of_image cg ce,rfl⟩
 · exact ⟨Img.of_image cR cQ,rfl⟩
 · exact ⟨Img.of_image gx gv,rfl⟩
 · exact ⟨Img.of_image pZ pQ,rfl⟩
def tqQ:List (Nat × FD):=[
 (zK,⟨qC,[.t 2],1,[]⟩),
 (vW,⟨nA,[.t 2],1,[]⟩),
 (vV,⟨nz,[.t 4],2,[]⟩),
 (D3,⟨vr,[.t 2],1,[]⟩),
 (BN,⟨sl,[.t 2],1,[]⟩),
 (eG,⟨qo,[.t 2],1,[]⟩)]
theorem Pi:∀ x∈tqQ,Img Tryz.prog x.1 x.2∧x.2.ps=[]:=by
 intro x hx
 simp only [tqQ,List.mem_cons,List.not_mem_nil,or_false] at hx
 rcases hx with rfl | rfl | rfl | rfl | rfl | rfl
 · exact ⟨Img.of_imageE Ax Ai,rfl⟩
 · exact ⟨Img.of_imageE w7 wC,rfl⟩
 · exact ⟨Img.of_imageE w6 wB,rfl⟩
 · exact ⟨Img.of_imageE Ep Ej,rfl⟩
 · exact ⟨Img.of_imageE Cv Cd,rfl⟩
 · exact ⟨Img.of_imageE Al zY,rfl⟩
def tqH:List (Nat × FD):=[
 (B0,⟨sD,[.t 0],0,[]⟩),
 (wl,⟨nP,[.t 0],0,[]⟩),
 (lz,⟨fX,[],2,[0]⟩),
 (ly,⟨fW,[],2,[0]⟩),
 (jR,⟨eY,[],2,[0]⟩),
 (jQ,⟨eX,[],2,[0]⟩),
 (lx,⟨fV,[],2,[0]⟩),
 (jP,⟨eW,[.t 2],1,[0]⟩),
 (jp,⟨ee,[],2,[0]⟩),
 (kL,⟨fh,[.t 2],1,[0]⟩),
 (jS,⟨eZ,[.t 2],1,[0]⟩),
 (dJ,⟨bW,[.t 2],1,[]⟩),
 (f0,⟨c9,[.t 4],2,[]⟩),
 (fZ,⟨c8,[.t 4,.t 5],2,[]⟩),
 (cE,⟨br,[.t 4,.t 5],2,[]⟩),
 (zB,⟨qq,[.t 0],0,[]⟩),
 (lw,⟨fU,[.t 3],2,[1]⟩),
 (vT,⟨nv,[.t 4],2,[1]⟩),
 (iz,⟨dM,[.t 4],2,[]⟩),
 (ej,⟨bU,[.t 4],2,[]⟩),
 (uj,⟨l8,[],2,[]⟩),
 (vR,⟨ns,[],2,[]⟩),
 (BM,⟨sj,[],2,[]⟩),
 (zz,⟨qn,[],2,[]⟩),
 (ku,⟨gg,[.t 0],0,[]⟩)]
theorem Pk:∀ x∈tqH,Img Tryz.prog x.1 x.2:=by
 intro x hx
 simp only [tqH,List.mem_cons,List.not_mem_nil,or_false] at hx
 rcases hx with rfl | rfl | rfl | rfl | rfl | rfl | rfl | rfl | rfl | rfl | rfl | rfl | rfl | rfl | rfl | rfl | rfl | rfl | rfl | rfl | rfl | rfl | rfl | rfl | rfl
 · exact Img.of_imageE CJ Cs
 · exact Img.of_imageE xq wT
 · exact Img.of_imageE lP lK
 · exact Img.of_imageE lO lJ
 · exact Img.of_imageE j5 j1
 · exact Img.of_imageE j4 j0
 · exact Img.of_imageE lN lI
 · exact Img.of_imageE j3 jZ
 · exact Img.of_imageE js jr
 · exact Img.of_imageE kO kN
 · exact Img.of_imageE j6 j2
 · exact Img.of_imageE dL dK
 · exact Img.of_imageE gb f9
 · exact Img.of_imageE ga f7
 · exact Img.of_imageE cH cG
 · exact Img.of_imageE An z6
 · exact Img.of_imageE lM lH
 · exact Img.of_imageE wZ wz
 · exact Img.of_imageE iB iA
 · exact Img.of_imageE ep eo
 · exact Img.of_imageE uL uy
 · exact Img.of_imageE wX wx
 · exact Img.of_imageE Cu Cc
 · exact Img.of_imageE Ak zX
 · exact Img.of_imageE ky kx
def ckQ (us:List V) (H:List (Option Ob)):Option (V × List (Option Ob)):=match us,H with
 | [.q 0 j 0 0 0],[some (.pool ms)]=>match ms[j]? with
   | some (.bx t [x,y])=>if t=cT then (match x with
     | .nilptr=>some (.tup [],[some (.pool (ms.set j (.bx cT [.q 0 j 0 0 0,y])))])
     | .q 0 i 0 0 0=>if i=j then some (.tup [],[some (.pool (ms.set j (.bx cT [.q 0 j 0 0 0,y])))]) else none
     | _=>none) else none
   | _=>none
 | _,_=>none
def tqK (f:FuncId):Option (List V→List (Option Ob)→Option (V × List (Option Ob))):=if f=aH then some ckQ else none
def Pl:FTab:=⟨lkD tqP,lkD tqH,NU,lkD tqQ,tqK⟩
theorem Qp {us:List V} {H H':List (Option Ob)} {r:V} (h:ckQ us H=some (r,H')):FnH Tryz.prog aH [] us H r H':=by
 unfold ckQ at h
 split at h
 · rename_i j ms
   split at h
   · rename_i t x y hj
     split at h
     · rename_i ht
       subst ht
       split at h
       · cases h; exact lW hj (.inl rfl)
       · split at h
         · rename_i hij; subst hij; cases h; exact lW hj (.inr rfl)
         · cases h
       · cases h
     · cases h
   · cases h
 · cases h
theorem tm:TabOK Tryz.prog Pl:=by
 refine ⟨fun f D h=>Pj _ (tA h),fun f D h=>Pk _ (tA h),fun f us r h=>?_,fun f D h=>Pi _ (tA h),fun f g us H r H' h hg=>?_⟩
 · simp only [Pl,NU] at h
   split at h
   · rename_i hf
     subst hf
     split at h
     · split at h
       · rename_i s n hn
         cases h
         have:=Go.Abs.f_bytealg_IndexByteString s (UInt8.ofNat n.toNat)
         rwa [hn] at this
       · cases h
     · cases h
   · cases h
 · simp only [Pl,tqK] at h
   split at h
   · rename_i hf
     subst hf
     cases h
     exact Qp hg
   · cases h
end Go.Abs
end
section
namespace Go.Abs.F
open Go.Proofs
theorem EG:Fn Tryz.prog eG [.seq 5 [.strct [.int .i64 1,.str [98],.seq 2 [],.str [],.seq 5 [.strct [.int .i64 2,.str [],.seq 2 [],.str [120],.seq 5 []]]]]] (.str [60,98,62,120,60,47,98,62]):=
 ((jG mixed tm 60 14).p _ _ _ false (by kernel_rfl)).1
theorem CW:Fn Tryz.prog eG [.seq 5 []] (.str []):=((jG mixed tm 60 14).p _ _ _ false (by kernel_rfl)).1
theorem C3:Fn Tryz.prog dS [.seq 1 [.int .u8 120]] (.seq 5 [.strct [.int .i64 2,.str [],.seq 2 [],.str [120],.seq 5 []]]):=((jG mixed tm 60 20).p _ _ _ false (by kernel_rfl)).1
theorem EI:Fn Tryz.prog dS [.seq 1 [.int .u8 60,.int .u8 98,.int .u8 32,.int .u8 105,.int .u8 100,.int .u8 61,.int .u8 49,.int .u8 62,.int .u8 120,.int .u8 60,.int .u8 105,.int .u8 62,.int .u8 121,.int .u8 60,.int .u8 47,.int .u8 105,.int .u8 62,.int .u8 60,.int .u8 47,.int .u8 98,.int .u8 62]] (.seq 5 [.strct [.int .i64 1,.str [98],.seq 2 [.strct [.str [105,100],.str [49]]],.str [],.seq 5 [.strct [.int .i64 2,.str [],.seq 2 [],.str [120],.seq 5 []],.strct [.int .i64 1,.str [105],.seq 2 [],.str [],.seq 5 [.strct [.int .i64 2,.str [],.seq 2 [],.str [121],.seq 5 []]]]]]]):=((jG mixed tm 60 20).p _ _ _ false (by kernel_rfl)).1
end Go.Abs.F
end
