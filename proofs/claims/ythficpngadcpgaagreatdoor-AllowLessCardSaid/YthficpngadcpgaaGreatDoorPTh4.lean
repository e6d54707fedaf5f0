/-
  Sets of states, plainly: as eight words of 64 bits. No condition.
  What sets of states answer. No condition.
  What is reached from a set by a sign. No condition.
  A net's steps by each sign, and the signs that its edges tell apart. No condition.
  A walk through sets of states. No condition.
  A walk through sets of states: what it answers. No condition.
  What a net's steps and borders are, plainly. No condition.
  A net's automaton. No condition.
  The table of the functions that a closed run goes through, and that it is so. Made by program. No condition.
-/
import Derived.Test.YthficpngadcpgaaGreatDoorPTh3
import Derived.Lib.TrailingZeros
import Derived.Laws.Bits64b
import Derived.Lib.Bytealg
set_option linter.unusedVariables false
set_option linter.unusedSimpArgs false
set_option linter.unusedSectionVars false
section
namespace Go.Aut
def gV (s:List Nat) (q:Nat):Bool:=(getN s (q / 64)).testBit (q % 64)
end Go.Aut
end
section
set_option maxHeartbeats 1000000
set_option maxRecDepth 100000
namespace Go.Abs
open Go.Proofs Go.Aut
attribute [-simp] getElem?_pos Option.not_isSome List.map_map
section
variable {k off:Nat} {r t:List Nat} (hr:off + 8≤r.length) (ht:t.length=8)
include hr ht
end
def rowW (r:List Nat):V:=.strct (r.map r6)
def IL (t:List (List Nat)):V:=.seq 760 (t.map rowW)
theorem Ds (l:List Bool):ah (l.map V.bool)=[]:=mj (fun _=>rfl) l
theorem Gw (hp:List (Option Ob)) (l:List Bool):purs hp (l.map V.bool)=some (l.map V.bool):=pe (fun _=>rfl) l
theorem Gv (m:List Nat) (l:List Bool):dh m (l.map V.bool)=l.map V.bool:=pb (fun _=>rfl) l
theorem HH (m:List Nat) (l:List Bool):jt m (l.map V.bool)=l.map V.bool:=qf (fun _=>rfl) l
theorem Ep (l:List Bool):cw (l.map V.bool)=true:=mH (fun _=>rfl) l
attribute [simp] Ds Gw Gv HH Ep
attribute [-simp] List.map_set
def of1H (bd:List Bool) (t:List (List Nat)) (L:List Nat):List (Option Ob):=[some (.box (bd.map V.bool)),some (.box [IL t]),some (.box (L.map r6))]
attribute [simp] of1H
attribute [simp] IL
end Go.Abs
end
section
set_option maxHeartbeats 1000000
namespace Go.Abs
open Go.Aut
attribute [-simp] getElem?_pos Option.not_isSome List.map_map
end Go.Abs

end
section
set_option maxHeartbeats 1000000
set_option maxRecDepth 100000
namespace Go.Abs
open Go.Proofs Go.Aut
attribute [-simp] getElem?_pos Option.not_isSome List.map_map
end Go.Abs

end
section
set_option maxRecDepth 100000
namespace Go.Abs
open Go.Proofs
def lkD:List (Nat × FD)→Nat→Option FD
 | [],_=>none
 | (k,D)::l,f=>if k=f then some D else lkD l f
theorem zI {f:Nat} {D:FD}:∀ {l:List (Nat × FD)},lkD l f=some D→(f,D)∈l
 | [],h=>by simp [lkD] at h
 | (k,E)::l,h=>by
   simp only [lkD] at h
   split at h
   · rename_i he; subst he; cases h; simp
   · exact List.mem_cons_of_mem _ (zI h)
theorem dm (c:UInt8):∀ s:Str,Lib.indexByte s c < (s.length:Int) + 1∧(0≤Lib.indexByte s c→Lib.indexByte s c < s.length)
 | []=>by simp [Lib.indexByte]
 | b::l=>by
   have:=dm c l
   unfold Lib.indexByte
   simp only [List.length_cons]
   split
   · omega
   · split
     · omega
     · omega
theorem bh (s:Str) (c:UInt8):Fn Tryz.prog aT [.str s,.int .u8 c.toNat] (.int .i64 (Lib.indexByte s c)):=by
 refine Fn.ext bE (by kernel_rfl) (by kernel_rfl) (by kernel_rfl) (e:=Extern.BytealgIndexByte.indexByte) (by kernel_rfl) ?_
 intro M w cs hM hus
 obtain ⟨cl⟩:=cs
 simp only [ae] at hus
 obtain ⟨_,_,rfl,⟨bs,rfl,rfl,_⟩,_,_,rfl,⟨rfl,_⟩,rfl⟩:=hus
 refine ⟨_,Lib.run_indexByteString bs (c.toNat:Int) w,?_⟩
 have hc:((c.toNat:Int)).toNat.toUInt8=c:=by simp
 rw [hc]
 simp only [rep]
 have h1:=Lib.indexByte_ge bs.data.toList c
 have h2:=dm c bs.data.toList
 refine ⟨trivial,?_,?_⟩
 · simp; omega
 · simp; omega
def IE:List (Nat × FD):=[
 (tQ,⟨l5,[.t 2],1,[]⟩),
 (BU,⟨rM,[.t 2],1,[]⟩),
 (vS,⟨ns,[.c 0 95 true],0,[]⟩),
 (tO,⟨lZ,[.c 2 95 true],1,[]⟩),
 (pj,⟨it,[.c 2 95 true],1,[]⟩),
 (tP,⟨l4,[.t 2],1,[]⟩),
 (mS,⟨fT,[.t 4],2,[]⟩),
 (bL,⟨bg,[.t 4],2,[]⟩)]
def IG:List (Nat × FD):=[
 (ar,⟨nu,[.t 2,.t 3],1,[]⟩),
 (cn,⟨dM,[.c 2 4 true],1,[]⟩),
 (nb,⟨iO,[.t 2],1,[]⟩),
 (gw,⟨c7,[.t 2,.t 3],1,[0]⟩),
 (jL,⟨ep,[.t 2,.t 3],1,[0]⟩),
 (n8,⟨gT,[.t 4],2,[0]⟩),
 (lB,⟨fv,[.t 2,.t 3],1,[0]⟩),
 (lA,⟨fu,[.t 4,.t 5],2,[0]⟩),
 (kM,⟨eu,[.t 2,.t 3],1,[0]⟩),
 (dy,⟨bZ,[],4,[0]⟩),
 (eY,⟨c8,[.t 2],1,[0]⟩),
 (fP,⟨dD,[],3,[0]⟩),
 (j8,⟨fI,[],4,[1]⟩),
 (ke,⟨fK,[],4,[1]⟩),
 (kf,⟨fL,[],4,[1]⟩),
 (j9,⟨fJ,[],4,[1]⟩),
 (i9,⟨eD,[.t 4],2,[0]⟩)]
def Nu (f:FuncId) (us:List V):Option V:=if f=aT then (match us with
 | [.str s,.int .u8 n]=>if (UInt8.ofNat n.toNat).toNat=n then some (.int .i64 (Lib.indexByte s (UInt8.ofNat n.toNat))) else none
 | _=>none) else none
def th:FTab:=⟨lkD IE,lkD IG,Nu⟩
theorem ID:∀ x∈IE,Img Tryz.prog x.1 x.2∧x.2.ps=[]:=by
 intro x hx
 simp only [IE,List.mem_cons,List.not_mem_nil,or_false] at hx
 rcases hx with rfl | rfl | rfl | rfl | rfl | rfl | rfl | rfl
 · exact ⟨Img.of_image uG um,rfl⟩
 · exact ⟨Img.of_image Cv Cg,rfl⟩
 · exact ⟨Img.of_image wR wo,rfl⟩
 · exact ⟨Img.of_image uE uk,rfl⟩
 · exact ⟨Img.of_image pE pz,rfl⟩
 · exact ⟨Img.of_image uF ul,rfl⟩
 · exact ⟨Img.of_image m0 mW,rfl⟩
 · exact ⟨Img.of_image bN bM,rfl⟩
theorem IF:∀ x∈IG,Img Tryz.prog x.1 x.2:=by
 intro x hx
 simp only [IG,List.mem_cons,List.not_mem_nil,or_false] at hx
 rcases hx with rfl | rfl | rfl | rfl | rfl | rfl | rfl | rfl | rfl | rfl | rfl | rfl | rfl | rfl | rfl | rfl | rfl
 · exact Img.of_imageE wT wq
 · exact Img.of_imageE gG gD
 · exact Img.of_image ni ng
 · exact Img.of_imageE gF gC
 · exact Img.of_imageE jR jQ
 · exact Img.of_imageE ot ol
 · exact Img.of_imageE lK lH
 · exact Img.of_imageE lJ lG
 · exact Img.of_imageE kP kO
 · exact Img.of_imageE dC dB
 · exact Img.of_imageE fj fg
 · exact Img.of_imageE fR fQ
 · exact Img.of_imageE ko kh
 · exact Img.of_imageE ku kj
 · exact Img.of_imageE kw kn
 · exact Img.of_imageE kq ki
 · exact Img.of_imageE je jd
theorem fY:TabOK Tryz.prog th:=by
 refine ⟨fun f D h=>ID _ (zI h),fun f D h=>IF _ (zI h),fun f us r h=>?_⟩
 simp only [th,Nu] at h
 split at h
 · rename_i hf
   subst hf
   split at h
   · split at h
     · rename_i s n hn
       cases h
       have:=bh s (UInt8.ofNat n.toNat)
       rwa [hn] at this
     · cases h
   · cases h
 · cases h
end Go.Abs
end
