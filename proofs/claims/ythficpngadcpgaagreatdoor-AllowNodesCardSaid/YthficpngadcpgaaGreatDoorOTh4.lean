/-
  Sets of states, plainly: as eight words of 64 bits. No condition.
  What sets of states answer. No condition.
  What is reached from a set by a sign. No condition.
  A net's steps by each sign, and the signs that its edges tell apart. No condition.
  A walk through sets of states. No condition.
  A walk through sets of states: what it answers. No condition.
  What a net's steps and borders are, plainly. No condition.
  A net's automaton. No condition.
  The table of the functions that a closed run goes through, and that it is so. Made by program. No condition.
-/
import Derived.Test.YthficpngadcpgaaGreatDoorOTh3
import Derived.Lib.TrailingZeros
import Derived.Laws.Bits64b
import Derived.Lib.Bytealg
set_option linter.unusedVariables false
set_option linter.unusedSimpArgs false
set_option linter.unusedSectionVars false
section
namespace Go.Aut
def gP (s:List Nat) (q:Nat):Bool:=(getN s (q / 64)).testBit (q % 64)
end Go.Aut
end
section
set_option maxHeartbeats 1000000
set_option maxRecDepth 100000
namespace Go.Abs
open Go.Proofs Go.Aut
attribute [-simp] getElem?_pos Option.not_isSome List.map_map
section
variable {k off:Nat} {r t:List Nat} (hr:off + 8≤r.length) (ht:t.length=8)
include hr ht
end
def rowW (r:List Nat):V:=.strct (r.map ul)
def Ml (t:List (List Nat)):V:=.seq 760 (t.map rowW)
theorem GQ (l:List Bool):ah (l.map V.bool)=[]:=nq (fun _=>rfl) l
theorem J5 (hp:List (Option Ob)) (l:List Bool):purs hp (l.map V.bool)=some (l.map V.bool):=qF (fun _=>rfl) l
theorem J4 (m:List Nat) (l:List Bool):dD m (l.map V.bool)=l.map V.bool:=qC (fun _=>rfl) l
theorem Lf (m:List Nat) (l:List Bool):kf m (l.map V.bool)=l.map V.bool:=rX (fun _=>rfl) l
theorem HY (l:List Bool):cf (l.map V.bool)=true:=nL (fun _=>rfl) l
attribute [simp] GQ J5 J4 Lf HY
attribute [-simp] List.map_set
def of1H (bd:List Bool) (t:List (List Nat)) (L:List Nat):List (Option Ob):=[some (.box (bd.map V.bool)),some (.box [Ml t]),some (.box (L.map ul))]
attribute [simp] of1H
attribute [simp] Ml
end Go.Abs
end
section
set_option maxHeartbeats 1000000
namespace Go.Abs
open Go.Aut
attribute [-simp] getElem?_pos Option.not_isSome List.map_map
end Go.Abs

end
section
set_option maxHeartbeats 1000000
set_option maxRecDepth 100000
namespace Go.Abs
open Go.Proofs Go.Aut
attribute [-simp] getElem?_pos Option.not_isSome List.map_map
end Go.Abs

end
section
set_option maxRecDepth 100000
namespace Go.Abs
open Go.Proofs
def lkD:List (Nat × FD)→Nat→Option FD
 | [],_=>none
 | (k,D)::l,f=>if k=f then some D else lkD l f
theorem Cw {f:Nat} {D:FD}:∀ {l:List (Nat × FD)},lkD l f=some D→(f,D)∈l
 | [],h=>by simp [lkD] at h
 | (k,E)::l,h=>by
   simp only [lkD] at h
   split at h
   · rename_i he; subst he; cases h; simp
   · exact List.mem_cons_of_mem _ (Cw h)
theorem cJ (c:UInt8):∀ s:Str,Lib.indexByte s c < (s.length:Int) + 1∧(0≤Lib.indexByte s c→Lib.indexByte s c < s.length)
 | []=>by simp [Lib.indexByte]
 | b::l=>by
   have:=cJ c l
   unfold Lib.indexByte
   simp only [List.length_cons]
   split
   · omega
   · split
     · omega
     · omega
theorem br (s:Str) (c:UInt8):Fn Tryz.prog bc [.str s,.int .u8 c.toNat] (.int .i64 (Lib.indexByte s c)):=by
 refine Fn.ext bN (by kernel_rfl) (by kernel_rfl) (by kernel_rfl) (e:=Extern.BytealgIndexByte.indexByte) (by kernel_rfl) ?_
 intro M w cs hM hus
 obtain ⟨cl⟩:=cs
 simp only [ae] at hus
 obtain ⟨_,_,rfl,⟨bs,rfl,rfl,_⟩,_,_,rfl,⟨rfl,_⟩,rfl⟩:=hus
 refine ⟨_,Lib.run_indexByteString bs (c.toNat:Int) w,?_⟩
 have hc:((c.toNat:Int)).toNat.toUInt8=c:=by simp
 rw [hc]
 simp only [rep]
 have h1:=Lib.indexByte_ge bs.data.toList c
 have h2:=cJ c bs.data.toList
 refine ⟨trivial,?_,?_⟩
 · simp; omega
 · simp; omega
def Md:List (Nat × FD):=[
 (vQ,⟨m4,[.t 2],1,[]⟩),
 (EW,⟨tS,[.t 2],1,[]⟩),
 (yc,⟨oR,[.c 0 95 true],0,[]⟩),
 (vO,⟨m2,[.c 2 95 true],1,[]⟩),
 (qJ,⟨je,[.c 2 95 true],1,[]⟩),
 (vP,⟨m3,[.t 2],1,[]⟩),
 (nX,⟨gB,[.t 4],2,[]⟩),
 (bU,⟨bp,[.t 4],2,[]⟩)]
def Mf:List (Nat × FD):=[
 (av,⟨oS,[.t 2,.t 3],1,[]⟩),
 (cI,⟨ee,[.c 2 4 true],1,[]⟩),
 (oz,⟨jA,[.t 2],1,[]⟩),
 (ij,⟨dw,[.t 2,.t 3],1,[0]⟩),
 (kI,⟨eO,[.t 2,.t 3],1,[0]⟩),
 (pP,⟨iM,[.t 4],2,[0]⟩),
 (mA,⟨fZ,[.t 2,.t 3],1,[0]⟩),
 (mz,⟨fY,[.t 4,.t 5],2,[0]⟩),
 (lQ,⟨eQ,[.t 2,.t 3],1,[0]⟩),
 (dO,⟨cj,[],4,[0]⟩),
 (fJ,⟨dx,[.t 2],1,[0]⟩),
 (gw,⟨dS,[],3,[0]⟩),
 (lh,⟨gk,[],4,[1]⟩),
 (lj,⟨gn,[],4,[1]⟩),
 (ll,⟨gp,[],4,[1]⟩),
 (li,⟨gm,[],4,[1]⟩),
 (jU,⟨e9,[.t 4],2,[0]⟩)]
def QX (f:FuncId) (us:List V):Option V:=if f=bc then (match us with
 | [.str s,.int .u8 n]=>if (UInt8.ofNat n.toNat).toNat=n then some (.int .i64 (Lib.indexByte s (UInt8.ofNat n.toNat))) else none
 | _=>none) else none
def vq:FTab:=⟨lkD Md,lkD Mf,QX⟩
theorem Mc:∀ x∈Md,Img Tryz.prog x.1 x.2∧x.2.ps=[]:=by
 intro x hx
 simp only [Md,List.mem_cons,List.not_mem_nil,or_false] at hx
 rcases hx with rfl | rfl | rfl | rfl | rfl | rfl | rfl | rfl
 · exact ⟨Img.of_image wP wt,rfl⟩
 · exact ⟨Img.of_image FG Fj,rfl⟩
 · exact ⟨Img.of_image zt yM,rfl⟩
 · exact ⟨Img.of_image wN wo,rfl⟩
 · exact ⟨Img.of_image qX qU,rfl⟩
 · exact ⟨Img.of_image wO wq,rfl⟩
 · exact ⟨Img.of_image oc n6,rfl⟩
 · exact ⟨Img.of_image bX bW,rfl⟩
theorem Me:∀ x∈Mf,Img Tryz.prog x.1 x.2:=by
 intro x hx
 simp only [Mf,List.mem_cons,List.not_mem_nil,or_false] at hx
 rcases hx with rfl | rfl | rfl | rfl | rfl | rfl | rfl | rfl | rfl | rfl | rfl | rfl | rfl | rfl | rfl | rfl | rfl
 · exact Img.of_imageE zu yN
 · exact Img.of_imageE iw it
 · exact Img.of_image oG oE
 · exact Img.of_imageE iv ir
 · exact Img.of_imageE kO kN
 · exact Img.of_imageE pZ pU
 · exact Img.of_imageE mK mG
 · exact Img.of_imageE mJ mF
 · exact Img.of_imageE lU lT
 · exact Img.of_imageE dR dQ
 · exact Img.of_imageE fS fQ
 · exact Img.of_imageE gy gx
 · exact Img.of_imageE lx lp
 · exact Img.of_imageE lz lu
 · exact Img.of_imageE lA lw
 · exact Img.of_imageE ly lr
 · exact Img.of_imageE jY jX
theorem gG:TabOK Tryz.prog vq:=by
 refine ⟨fun f D h=>Mc _ (Cw h),fun f D h=>Me _ (Cw h),fun f us r h=>?_⟩
 simp only [vq,QX] at h
 split at h
 · rename_i hf
   subst hf
   split at h
   · split at h
     · rename_i s n hn
       cases h
       have:=br s (UInt8.ofNat n.toNat)
       rwa [hn] at this
     · cases h
   · cases h
 · cases h
end Go.Abs
end
