/- Sets of states, plainly: as eight words of 64 bits. No condition. -/
import Derived.Test.YtnnbodoijkbceaaGreatDoorJTh3
import Derived.Lib.TrailingZeros
import Derived.Laws.Bits64b
import Derived.Lib.Bytealg
import Derived.Test.YtnnbodoijkbceaaGreatDoorJCodeS
import Derived.Test.YtnnbodoijkbceaaGreatDoorJB0
set_option linter.all false
set_option maxHeartbeats 0
set_option maxRecDepth 100000
open List renaming not_mem_nil→zAa,mem_cons→zAb,map_map→zAe
open Option renaming not_isSome→zAc
open UInt8 renaming ofNat→zAd
section
namespace Go.Aut
structure wOK (s:List Nat):Prop where
 len:s.length=8
 lt:∀w∈s,w<18446744073709551616
def zU(s:List Nat)(q:Nat):Bool:=(getN s (q/64)).testBit (q%64)
end Go.Aut
end
section
namespace Go.Abs
open Go.Proofs Go.Aut
attribute [-simp] getElem?_pos zAc zAe
section
variable{k off:Nat}{r t:List Nat}(hr:off+8<=r.length)(ht:t.length=8)
include hr ht
end
def rowW(r:List Nat):V:=.strct (r.map xy)
def QM(t:List (List Nat)):V:=.seq 760 (t.map rowW)
theorem Ky(l:List Bool):ak (l.map V.bool)=[]:=qi (fun _=>rfl) l
theorem Oo(hp:List (Option Ob))(l:List Bool):purs hp (l.map V.bool)=some (l.map V.bool):=tJ (fun _=>rfl) l
theorem On(m:List Nat)(l:List Bool):dO m (l.map V.bool)=l.map V.bool:=tG (fun _=>rfl) l
theorem PF(m:List Nat)(l:List Bool):lI m (l.map V.bool)=l.map V.bool:=vb (fun _=>rfl) l
theorem LK(l:List Bool):dB (l.map V.bool)=true:=qz (fun _=>rfl) l
attribute [simp] Ky Oo On PF LK
attribute [-simp] List.map_set
def of1H(bd:List Bool)(t:List (List Nat))(L:List Nat):List (Option Ob):=[some (.box (bd.map V.bool)),some (.box [QM t]),some (.box (L.map xy))]
attribute [simp] of1H
attribute [simp] QM
end Go.Abs
end
section
namespace Go.Abs
open Go.Aut
attribute [-simp] getElem?_pos zAc zAe
end Go.Abs
end
section
namespace Go.Abs
open Go.Proofs Go.Aut
attribute [-simp] getElem?_pos zAc zAe
end Go.Abs
end
section
namespace Go.Abs
open Go.Proofs
def lkD:List (Nat×FD)->Nat->Option FD
 |[],_=>none
 |(k,D)::l,f=>if k=f then some D else lkD l f
theorem qw{f:Nat}{D:FD}:∀{l:List (Nat×FD)},lkD l f=some D->(f,D)∈l
 |[],h=>by simp[lkD]at h
 |(k,E)::l,h=>by
   simp only[lkD]at h;split at h
   ·rename_i he;subst he;cases h;simp
   ·exact List.mem_cons_of_mem _ (qw h)
theorem eC(c:UInt8):∀s:Str,Lib.indexByte s c<(s.length:Int)+1/\(0<=Lib.indexByte s c->Lib.indexByte s c<s.length)
 |[]=>by simp[Lib.indexByte]
 |b::l=>by
   have:=eC c l;unfold Lib.indexByte;simp only[List.length_cons];split
   ·omega
   ·split
    ·omega
    ·omega
theorem f_bytealg_IndexByteString(s:Str)(c:UInt8):Fn Tryz.prog bm [.str s,.int .u8 c.toNat] (.int .i64 (Lib.indexByte s c)):=by
 refine Fn.ext Tryz.func174 (by kernel_rfl) (by kernel_rfl) (by kernel_rfl) (e:=Extern.BytealgIndexByte.indexByte) (by kernel_rfl) ?_
 intro M w cs hM hus;obtain⟨cl⟩:=cs;simp only[ae]at hus;obtain⟨_,_,rfl,⟨bs,rfl,rfl,_⟩,_,_,rfl,⟨rfl,_⟩,rfl⟩:=hus;refine⟨_,Lib.run_indexByteString bs (c.toNat:Int) w,?_⟩;have hc:((c.toNat:Int)).toNat.toUInt8=c:=by simp
 rw[hc];simp only[rep];have h1:=Lib.indexByte_ge bs.data.toList c;have h2:=eC c bs.data.toList;refine⟨trivial,?_,?_⟩
 ·simp;omega
 ·simp;omega
noncomputable def QG:List (Nat×FD):=[
 (zd,⟨zOb zG,[.t 2],1,[]⟩),
 (Io,⟨zOb IR,[.t 2],1,[]⟩),
 (Bu,⟨zOb B3,[.c 0 95 true],0,[]⟩),
 (za,⟨zOb zE,[.c 2 95 true],1,[]⟩),
 (tQ,⟨zOb ua,[.c 2 95 true],1,[]⟩),
 (zb,⟨zOb zF,[.t 2],1,[]⟩),
 (iY,⟨zOb i4,[.t 4],2,[]⟩),
 (bC,⟨zOb bD,[.t 4],2,[]⟩)]
noncomputable def QI:List (Nat×FD):=[
 (aF,⟨zOc B4,[.t 2,.t 3],1,[]⟩),
 (dt,⟨zOc jV,[.c 2 4 true],1,[]⟩),
 (rj,⟨zOb rn,[.t 2],1,[]⟩),
 (jQ,⟨zOc jU,[.t 2,.t 3],1,[0]⟩),
 (mE,⟨zOc mO,[.t 2,.t 3],1,[0]⟩),
 (su,⟨zOc sE,[.t 4],2,[0]⟩),
 (oJ,⟨zOc o9,[.t 2,.t 3],1,[0]⟩),
 (oI,⟨zOc oZ,[.t 4,.t 5],2,[0]⟩),
 (nS,⟨zOc nW,[.t 2,.t 3],1,[0]⟩),
 (eM,⟨zOc eO,[],4,[0]⟩),
 (ig,⟨zOc il,[.t 2],1,[0]⟩),
 (i3,⟨zOc i7,[],3,[0]⟩),
 (nh,⟨zOc nn,[],4,[1]⟩),
 (nj,⟨zOc nq,[],4,[1]⟩),
 (nk,⟨zOc nr,[],4,[1]⟩),
 (ni,⟨zOc np,[],4,[1]⟩),
 (lQ,⟨zOc lU,[.t 4],2,[0]⟩)]
def MM(f:FuncId)(us:List V):Option V:=if f=bm then(match us with
 |[.str s,.int .u8 n]=>if(zAd n.toNat).toNat=n then some (.int .i64 (Lib.indexByte s (zAd n.toNat)))else none
 |_=>none)else none
noncomputable def yG:FTab:=⟨lkD QG,lkD QI,MM,fun _=>none,fun _=>none⟩
theorem QF:∀x∈QG,Img Tryz.prog x.1 x.2/\x.2.ps=[]:=by
 intro x hx;simp only[QG,zAb,zAa,or_false]at hx;rcases hx with rfl|rfl|rfl|rfl|rfl|rfl|rfl|rfl
 ·exact⟨Img.of_image zG.1 zG.2,rfl⟩
 ·exact⟨Img.of_image IR.1 IR.2,rfl⟩
 ·exact⟨Img.of_image B3.1 B3.2,rfl⟩
 ·exact⟨Img.of_image zE.1 zE.2,rfl⟩
 ·exact⟨Img.of_image ua.1 ua.2,rfl⟩
 ·exact⟨Img.of_image zF.1 zF.2,rfl⟩
 ·exact⟨Img.of_image i4.1 i4.2,rfl⟩
 ·exact⟨Img.of_image bD.1 bD.2,rfl⟩
theorem QH:∀x∈QI,Img Tryz.prog x.1 x.2:=by
 intro x hx;simp only[QI,zAb,zAa,or_false]at hx;rcases hx with rfl|rfl|rfl|rfl|rfl|rfl|rfl|rfl|rfl|rfl|rfl|rfl|rfl|rfl|rfl|rfl|rfl
 ·exact Img.of_imageE B4.1 B4.2
 ·exact Img.of_imageE jV.1 jV.2
 ·exact Img.of_image rn.1 rn.2
 ·exact Img.of_imageE jU.1 jU.2
 ·exact Img.of_imageE mO.1 mO.2
 ·exact Img.of_imageE sE.1 sE.2
 ·exact Img.of_imageE o9.1 o9.2
 ·exact Img.of_imageE oZ.1 oZ.2
 ·exact Img.of_imageE nW.1 nW.2
 ·exact Img.of_imageE eO.1 eO.2
 ·exact Img.of_imageE il.1 il.2
 ·exact Img.of_imageE i7.1 i7.2
 ·exact Img.of_imageE nn.1 nn.2
 ·exact Img.of_imageE nq.1 nq.2
 ·exact Img.of_imageE nr.1 nr.2
 ·exact Img.of_imageE np.1 np.2
 ·exact Img.of_imageE lU.1 lU.2
theorem jm:TabOK Tryz.prog yG:=by
 refine⟨fun f D h=>QF _ (qw h),fun f D h=>QH _ (qw h),fun f us r h=>?_,fun f D h=>(by cases h),fun f g us H r H' h=>by cases h⟩
 simp only[yG,MM]at h;split at h
 ·rename_i hf
  subst hf;split at h
  ·split at h
   ·rename_i s n hn
    cases h;have:=f_bytealg_IndexByteString s (zAd n.toNat);rwa[hn]at this
   ·cases h
  ·cases h
 ·cases h
end Go.Abs
end
section
namespace Go.Abs
open Go.Proofs Go.Abs.F
noncomputable def tqP:List (Nat×FD):=[
 (eW,⟨zOb Cm,[.t 2],1,[]⟩),
 (sx,⟨zOb sG,[.t 2],1,[]⟩),
 (sv,⟨zOb sF,[.t 2],1,[]⟩),
 (Iw,⟨zOb I0,[.t 2],1,[]⟩),
 (qO,⟨zOb qT,[.t 2],1,[]⟩),
 (La,⟨zOb Lr,[.t 2,.t 3],1,[]⟩),
 (vA,⟨zOb vJ,[.t 2],1,[]⟩),
 (Fb,⟨zOb FL,[.t 4],2,[]⟩),
 (Bv,⟨zOb B5,[.t 8,.t 9],4,[]⟩),
 (iY,⟨zOb i4,[.t 4],2,[]⟩),
 (y9,⟨zOb zD,[.t 2],1,[]⟩),
 (In,⟨zOb IQ,[.c 2 4 true,.t 3],1,[]⟩),
 (qN,⟨zOb qS,[.t 2],1,[]⟩),
 (qM,⟨zOb qR,[.t 3],2,[]⟩),
 (qL,⟨zOb qQ,[.t 2],1,[]⟩),
 (qK,⟨zOb qP,[.t 2],1,[]⟩),
 (ri,⟨zOb rm,[.t 2],1,[]⟩),
 (so,⟨zOb sB,[.t 2],1,[]⟩),
 (xB,⟨zOb xK,[.c 2 4 true,.t 3],1,[]⟩),
 (y7,⟨zOb zB,[.c 2 4 true,.t 3],1,[]⟩),
 (y6,⟨zOb zA,[.t 2],1,[]⟩),
 (E9,⟨zOb FJ,[.t 4],2,[]⟩),
 (Bq,⟨zOb BZ,[.t 2],1,[]⟩),
 (xA,⟨zOb xJ,[.t 2],1,[]⟩),
 (Ip,⟨zOc IS,[.t 2,.t 3],1,[]⟩),
 (y8,⟨zOc zC,[.t 2],1,[]⟩),
 (tO,⟨zOc t7,[.c 2 2 true,.t 3],1,[]⟩),
 (tN,⟨zOc t6,[.c 2 4 true,.t 3],1,[]⟩),
 (wJ,⟨zOb wO,[.t 2],1,[]⟩),
 (zm,⟨zOb zR,[.t 2],1,[]⟩),
 (DX,⟨zOb Ef,[.t 2],1,[]⟩),
 (tP,⟨zOb t8,[.t 4],2,[]⟩),
 (oQ,⟨zOc pf,[.t 4],2,[]⟩),
 (bC,⟨zOb bD,[.t 4],2,[]⟩),
 (iZ,⟨zOb i5,[.t 4],2,[]⟩),
 (cC,⟨zOb cF,[.t 4],2,[]⟩),
 (cB,⟨zOb cE,[.t 4],2,[]⟩),
 (dj,⟨zOb dk,[.t 4],2,[]⟩),
 (i1,⟨zOb i6,[.t 4,.t 5],2,[]⟩),
 (tM,⟨zOb tZ,[.t 4],2,[]⟩)]
theorem XD:∀x∈tqP,Img Tryz.prog x.1 x.2/\x.2.ps=[]:=by
 intro x hx;simp only[tqP,zAb,zAa,or_false]at hx;rcases hx with rfl|rfl|rfl|rfl|rfl|rfl|rfl|rfl|rfl|rfl|rfl|rfl|rfl|rfl|rfl|rfl|rfl|rfl|rfl|rfl|rfl|rfl|rfl|rfl|rfl|rfl|rfl|rfl|rfl|rfl|rfl|rfl|rfl|rfl|rfl|rfl|rfl|rfl|rfl|rfl
 ·exact⟨Img.of_image Cm.1 Cm.2,rfl⟩
 ·exact⟨Img.of_image sG.1 sG.2,rfl⟩
 ·exact⟨Img.of_image sF.1 sF.2,rfl⟩
 ·exact⟨Img.of_image I0.1 I0.2,rfl⟩
 ·exact⟨Img.of_image qT.1 qT.2,rfl⟩
 ·exact⟨Img.of_image Lr.1 Lr.2,rfl⟩
 ·exact⟨Img.of_image vJ.1 vJ.2,rfl⟩
 ·exact⟨Img.of_image FL.1 FL.2,rfl⟩
 ·exact⟨Img.of_image B5.1 B5.2,rfl⟩
 ·exact⟨Img.of_image i4.1 i4.2,rfl⟩
 ·exact⟨Img.of_image zD.1 zD.2,rfl⟩
 ·exact⟨Img.of_image IQ.1 IQ.2,rfl⟩
 ·exact⟨Img.of_image qS.1 qS.2,rfl⟩
 ·exact⟨Img.of_image qR.1 qR.2,rfl⟩
 ·exact⟨Img.of_image qQ.1 qQ.2,rfl⟩
 ·exact⟨Img.of_image qP.1 qP.2,rfl⟩
 ·exact⟨Img.of_image rm.1 rm.2,rfl⟩
 ·exact⟨Img.of_image sB.1 sB.2,rfl⟩
 ·exact⟨Img.of_image xK.1 xK.2,rfl⟩
 ·exact⟨Img.of_image zB.1 zB.2,rfl⟩
 ·exact⟨Img.of_image zA.1 zA.2,rfl⟩
 ·exact⟨Img.of_image FJ.1 FJ.2,rfl⟩
 ·exact⟨Img.of_image BZ.1 BZ.2,rfl⟩
 ·exact⟨Img.of_image xJ.1 xJ.2,rfl⟩
 ·exact⟨Img.of_imageE IS.1 IS.2,rfl⟩
 ·exact⟨Img.of_imageE zC.1 zC.2,rfl⟩
 ·exact⟨Img.of_imageE t7.1 t7.2,rfl⟩
 ·exact⟨Img.of_imageE t6.1 t6.2,rfl⟩
 ·exact⟨Img.of_image wO.1 wO.2,rfl⟩
 ·exact⟨Img.of_image zR.1 zR.2,rfl⟩
 ·exact⟨Img.of_image Ef.1 Ef.2,rfl⟩
 ·exact⟨Img.of_image t8.1 t8.2,rfl⟩
 ·exact⟨Img.of_imageE pf.1 pf.2,rfl⟩
 ·exact⟨Img.of_image bD.1 bD.2,rfl⟩
 ·exact⟨Img.of_image i5.1 i5.2,rfl⟩
 ·exact⟨Img.of_image cF.1 cF.2,rfl⟩
 ·exact⟨Img.of_image cE.1 cE.2,rfl⟩
 ·exact⟨Img.of_image dk.1 dk.2,rfl⟩
 ·exact⟨Img.of_image i6.1 i6.2,rfl⟩
 ·exact⟨Img.of_image tZ.1 tZ.2,rfl⟩
noncomputable def tqQ:List (Nat×FD):=[
 (Ft,⟨zOc F7,[.t 2],1,[]⟩),
 (Bx,⟨zOc B7,[.t 2],1,[]⟩),
 (Bw,⟨zOc B6,[.t 4],2,[]⟩),
 (K9,⟨zOc Lq,[.t 2],1,[]⟩),
 (Im,⟨zOc IP,[.t 2],1,[]⟩),
 (fN,⟨zOc FI,[.t 2],1,[]⟩)]
theorem XC:∀x∈tqQ,Img Tryz.prog x.1 x.2/\x.2.ps=[]:=by
 intro x hx;simp only[tqQ,zAb,zAa,or_false]at hx;rcases hx with rfl|rfl|rfl|rfl|rfl|rfl
 ·exact⟨Img.of_imageE F7.1 F7.2,rfl⟩
 ·exact⟨Img.of_imageE B7.1 B7.2,rfl⟩
 ·exact⟨Img.of_imageE B6.1 B6.2,rfl⟩
 ·exact⟨Img.of_imageE Lq.1 Lq.2,rfl⟩
 ·exact⟨Img.of_imageE IP.1 IP.2,rfl⟩
 ·exact⟨Img.of_imageE FI.1 FI.2,rfl⟩
noncomputable def tqH:List (Nat×FD):=[
 (IB,⟨zOc I5,[.t 0],0,[]⟩),
 (BQ,⟨zOc Cs,[.t 0],0,[]⟩),
 (oO,⟨iB,[],2,[0]⟩),
 (oL,⟨zOc pd,[],2,[0]⟩),
 (mH,⟨zOc mR,[],2,[0]⟩),
 (mG,⟨zOc mQ,[],2,[0]⟩),
 (oK,⟨iz,[],2,[0]⟩),
 (mF,⟨zOc mP,[.t 2],1,[0]⟩),
 (lR,⟨zOc lV,[],2,[0]⟩),
 (nT,⟨zOc nX,[.t 2],1,[0]⟩),
 (mI,⟨zOc mS,[.t 2],1,[0]⟩),
 (eG,⟨zOc eH,[.t 2],1,[]⟩),
 (iG,⟨zOc iK,[.t 4],2,[]⟩),
 (iF,⟨zOc iJ,[.t 4,.t 5],2,[]⟩),
 (dc,⟨zOc dd,[.t 4,.t 5],2,[]⟩),
 (Fa,⟨zOc FK,[.t 0],0,[]⟩),
 (oH,⟨zOc oY,[.t 3],2,[1]⟩),
 (Bs,⟨zOc B0,[.t 4],2,[1]⟩),
 (kw,⟨zOc kx,[.t 4],2,[]⟩),
 (fy,⟨zOc fA,[.t 4],2,[]⟩),
 (y5,⟨zOc zz,[],2,[]⟩),
 (Bp,⟨zOc BY,[],2,[]⟩),
 (Il,⟨zOc IN,[],2,[]⟩),
 (E8,⟨zOc FH,[],2,[]⟩),
 (nl,⟨zOc ns,[.t 0],0,[]⟩)]
theorem XE:∀x∈tqH,Img Tryz.prog x.1 x.2:=by
 intro x hx;simp only[tqH,zAb,zAa,or_false]at hx;rcases hx with rfl|rfl|rfl|rfl|rfl|rfl|rfl|rfl|rfl|rfl|rfl|rfl|rfl|rfl|rfl|rfl|rfl|rfl|rfl|rfl|rfl|rfl|rfl|rfl|rfl
 ·exact Img.of_imageE I5.1 I5.2
 ·exact Img.of_imageE Cs.1 Cs.2
 ·exact Img.of_imageE pe.1 pe.2
 ·exact Img.of_imageE pd.1 pd.2
 ·exact Img.of_imageE mR.1 mR.2
 ·exact Img.of_imageE mQ.1 mQ.2
 ·exact Img.of_imageE pc.1 pc.2
 ·exact Img.of_imageE mP.1 mP.2
 ·exact Img.of_imageE lV.1 lV.2
 ·exact Img.of_imageE nX.1 nX.2
 ·exact Img.of_imageE mS.1 mS.2
 ·exact Img.of_imageE eH.1 eH.2
 ·exact Img.of_imageE iK.1 iK.2
 ·exact Img.of_imageE iJ.1 iJ.2
 ·exact Img.of_imageE dd.1 dd.2
 ·exact Img.of_imageE FK.1 FK.2
 ·exact Img.of_imageE oY.1 oY.2
 ·exact Img.of_imageE B0.1 B0.2
 ·exact Img.of_imageE kx.1 kx.2
 ·exact Img.of_imageE fA.1 fA.2
 ·exact Img.of_imageE zz.1 zz.2
 ·exact Img.of_imageE BY.1 BY.2
 ·exact Img.of_imageE IN.1 IN.2
 ·exact Img.of_imageE FH.1 FH.2
 ·exact Img.of_imageE ns.1 ns.2
def ckQ(us:List V)(H:List (Option Ob)):Option (V×List (Option Ob)):=match us,H with
 |[.q 0 j 0 0 0],[some (.pool ms)]=>match ms[j]? with
   |some (.bx t [x,y])=>if t=dn then(match x with
     | .nilptr=>some (.tup [],[some (.pool (ms.set j (.bx dn [.q 0 j 0 0 0,y])))])
     | .q 0 i 0 0 0=>if i=j then some (.tup [],[some (.pool (ms.set j (.bx dn [.q 0 j 0 0 0,y])))])else none
     |_=>none)else none
   |_=>none
 |_,_=>none
def tqK(f:FuncId):Option (List V->List (Option Ob)->Option (V×List (Option Ob))):=if f=aO then some ckQ else none
noncomputable def XF:FTab:=⟨lkD tqP,lkD tqH,MM,lkD tqQ,tqK⟩
theorem Y0{us:List V}{H H':List (Option Ob)}{r:V}(h:ckQ us H=some (r,H')):FnH Tryz.prog aO [] us H r H':=by
 unfold ckQ at h;split at h
 ·rename_i j ms
  split at h
  ·rename_i t x y hj
   split at h
   ·rename_i ht
    subst ht;split at h
    ·cases h;exact pH hj (.inl rfl)
    ·split at h
     ·rename_i hij;subst hij;cases h;exact pH hj (.inr rfl)
     ·cases h
    ·cases h
   ·cases h
  ·cases h
 ·cases h
theorem yc:TabOK Tryz.prog XF:=by
 refine⟨fun f D h=>XD _ (qw h),fun f D h=>XE _ (qw h),fun f us r h=>?_,fun f D h=>XC _ (qw h),fun f g us H r H' h hg=>?_⟩
 ·simp only[XF,MM]at h
  split at h
  ·rename_i hf
   subst hf;split at h
   ·split at h
    ·rename_i s n hn
     cases h;have:=Go.Abs.f_bytealg_IndexByteString s (zAd n.toNat);rwa[hn]at this
    ·cases h
   ·cases h
  ·cases h
 ·simp only[XF,tqK]at h
  split at h
  ·rename_i hf
   subst hf;cases h;exact Y0 hg
  ·cases h
end Go.Abs
end
section
namespace Go.Abs.F
open Go.Proofs
theorem LR:Fn Tryz.prog fN [.seq 5 [.strct [.int .i64 1,.str [98],.seq 2 [],.str [],.seq 5 [.strct [.int .i64 2,.str [],.seq 2 [],.str [120],.seq 5 []]]]]] (.str [60,98,62,120,60,47,98,62]):=
 ((bM mixed yc 60 14).p _ _ _ false (by kernel_rfl)).1
theorem JG:Fn Tryz.prog fN [.seq 5 []] (.str []):=((bM mixed yc 60 14).p _ _ _ false (by kernel_rfl)).1
theorem JM:Fn Tryz.prog eW [.seq 1 [.int .u8 120]] (.seq 5 [.strct [.int .i64 2,.str [],.seq 2 [],.str [120],.seq 5 []]]):=((bM mixed yc 60 20).p _ _ _ false (by kernel_rfl)).1
theorem L4:Fn Tryz.prog eW [.seq 1 [.int .u8 60,.int .u8 98,.int .u8 32,.int .u8 105,.int .u8 100,.int .u8 61,.int .u8 49,.int .u8 62,.int .u8 120,.int .u8 60,.int .u8 105,.int .u8 62,.int .u8 121,.int .u8 60,.int .u8 47,.int .u8 105,.int .u8 62,.int .u8 60,.int .u8 47,.int .u8 98,.int .u8 62]] (.seq 5 [.strct [.int .i64 1,.str [98],.seq 2 [.strct [.str [105,100],.str [49]]],.str [],.seq 5 [.strct [.int .i64 2,.str [],.seq 2 [],.str [120],.seq 5 []],.strct [.int .i64 1,.str [105],.seq 2 [],.str [],.seq 5 [.strct [.int .i64 2,.str [],.seq 2 [],.str [121],.seq 5 []]]]]]]):=((bM mixed yc 60 20).p _ _ _ false (by kernel_rfl)).1
end Go.Abs.F
end
