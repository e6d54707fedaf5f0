/- Sets of states, plainly: as eight words of 64 bits. No condition. -/
import Derived.Test.YtnnbodoijkbceaaGreatDoorITh3
import Derived.Lib.TrailingZeros
import Derived.Laws.Bits64b
import Derived.Lib.Bytealg
import Derived.Test.YtnnbodoijkbceaaGreatDoorICodeS
import Derived.Test.YtnnbodoijkbceaaGreatDoorIB0
set_option linter.all false
set_option maxHeartbeats 0
set_option maxRecDepth 100000
open List renaming not_mem_nil→zAa,mem_cons→zAb,map_map→zAe
open Option renaming not_isSome→zAc
open UInt8 renaming ofNat→zAd
section
namespace Go.Aut
structure wOK (s:List Nat):Prop where
 len:s.length=8
 lt:∀w∈s,w<18446744073709551616
def i5(s:List Nat)(q:Nat):Bool:=(getN s (q/64)).testBit (q%64)
end Go.Aut
end
section
namespace Go.Abs
open Go.Proofs Go.Aut
attribute [-simp] getElem?_pos zAc zAe
section
variable{k off:Nat}{r t:List Nat}(hr:off+8<=r.length)(ht:t.length=8)
include hr ht
end
def rowW(r:List Nat):V:=.strct (r.map z8)
def VF(t:List (List Nat)):V:=.seq 760 (t.map rowW)
theorem Pn(l:List Bool):am (l.map V.bool)=[]:=rI (fun _=>rfl) l
theorem Tg(hp:List (Option Ob))(l:List Bool):purs hp (l.map V.bool)=some (l.map V.bool):=vB (fun _=>rfl) l
theorem Tf(m:List Nat)(l:List Bool):ew m (l.map V.bool)=l.map V.bool:=vw (fun _=>rfl) l
theorem Uz(m:List Nat)(l:List Bool):mN m (l.map V.bool)=l.map V.bool:=xn (fun _=>rfl) l
theorem QI(l:List Bool):dk (l.map V.bool)=true:=r5 (fun _=>rfl) l
attribute [simp] Pn Tg Tf Uz QI
attribute [-simp] List.map_set
def of1H(bd:List Bool)(t:List (List Nat))(L:List Nat):List (Option Ob):=[some (.box (bd.map V.bool)),some (.box [VF t]),some (.box (L.map z8))]
attribute [simp] of1H
attribute [simp] VF
end Go.Abs
end
section
namespace Go.Abs
open Go.Aut
attribute [-simp] getElem?_pos zAc zAe
end Go.Abs
end
section
namespace Go.Abs
open Go.Proofs Go.Aut
attribute [-simp] getElem?_pos zAc zAe
end Go.Abs
end
section
namespace Go.Abs
open Go.Proofs
def lkD:List (Nat×FD)->Nat->Option FD
 |[],_=>none
 |(k,D)::l,f=>if k=f then some D else lkD l f
theorem rZ{f:Nat}{D:FD}:∀{l:List (Nat×FD)},lkD l f=some D->(f,D)∈l
 |[],h=>by simp[lkD]at h
 |(k,E)::l,h=>by
   simp only[lkD]at h;split at h
   ·rename_i he;subst he;cases h;simp
   ·exact List.mem_cons_of_mem _ (rZ h)
theorem dV(c:UInt8):∀s:Str,Lib.indexByte s c<(s.length:Int)+1/\(0<=Lib.indexByte s c->Lib.indexByte s c<s.length)
 |[]=>by simp[Lib.indexByte]
 |b::l=>by
   have:=dV c l;unfold Lib.indexByte;simp only[List.length_cons];split
   ·omega
   ·split
    ·omega
    ·omega
theorem f_bytealg_IndexByteString(s:Str)(c:UInt8):Fn Tryz.prog bA [.str s,.int .u8 c.toNat] (.int .i64 (Lib.indexByte s c)):=by
 refine Fn.ext Tryz.func174 (by kernel_rfl) (by kernel_rfl) (by kernel_rfl) (e:=Extern.BytealgIndexByte.indexByte) (by kernel_rfl) ?_
 intro M w cs hM hus;obtain⟨cl⟩:=cs;simp only[ae]at hus;obtain⟨_,_,rfl,⟨bs,rfl,rfl,_⟩,_,_,rfl,⟨rfl,_⟩,rfl⟩:=hus;refine⟨_,Lib.run_indexByteString bs (c.toNat:Int) w,?_⟩;have hc:((c.toNat:Int)).toNat.toUInt8=c:=by simp
 rw[hc];simp only[rep];have h1:=Lib.indexByte_ge bs.data.toList c;have h2:=dV c bs.data.toList;refine⟨trivial,?_,?_⟩
 ·simp;omega
 ·simp;omega
noncomputable def Vz:List (Nat×FD):=[
 (BK,⟨zOb Ce,[.t 2],1,[]⟩),
 (MM,⟨zOb Nm,[.t 2],1,[]⟩),
 (D4,⟨zOb EO,[.c 0 95 true],0,[]⟩),
 (BI,⟨zOb Cc,[.c 2 95 true],1,[]⟩),
 (vK,⟨zOb vY,[.c 2 95 true],1,[]⟩),
 (BJ,⟨zOb Cd,[.t 2],1,[]⟩),
 (jK,⟨zOb jO,[.t 4],2,[]⟩),
 (bL,⟨zOb bM,[.t 4],2,[]⟩)]
noncomputable def VB:List (Nat×FD):=[
 (aI,⟨zOc EP,[.t 2,.t 3],1,[]⟩),
 (dU,⟨zOc kV,[.c 2 4 true],1,[]⟩),
 (sV,⟨zOb s4,[.t 2],1,[]⟩),
 (kO,⟨zOc kU,[.t 2,.t 3],1,[0]⟩),
 (nN,⟨zOc nY,[.t 2,.t 3],1,[0]⟩),
 (uv,⟨zOc uE,[.t 4],2,[0]⟩),
 (qk,⟨zOc qA,[.t 2,.t 3],1,[0]⟩),
 (qj,⟨zOc qz,[.t 4,.t 5],2,[0]⟩),
 (pE,⟨zOc pH,[.t 2,.t 3],1,[0]⟩),
 (fA,⟨zOc fC,[],4,[0]⟩),
 (iX,⟨zOc i4,[.t 2],1,[0]⟩),
 (jN,⟨zOc jR,[],3,[0]⟩),
 (oI,⟨zOc oP,[],4,[1]⟩),
 (oK,⟨zOc oS,[],4,[1]⟩),
 (oL,⟨zOc oT,[],4,[1]⟩),
 (oJ,⟨zOc oQ,[],4,[1]⟩),
 (mX,⟨zOc m3,[.t 4],2,[0]⟩)]
def RH(f:FuncId)(us:List V):Option V:=if f=bA then(match us with
 |[.str s,.int .u8 n]=>if(zAd n.toNat).toNat=n then some (.int .i64 (Lib.indexByte s (zAd n.toNat)))else none
 |_=>none)else none
noncomputable def Bh:FTab:=⟨lkD Vz,lkD VB,RH,fun _=>none,fun _=>none⟩
theorem Vy:∀x∈Vz,Img Tryz.prog x.1 x.2/\x.2.ps=[]:=by
 intro x hx;simp only[Vz,zAb,zAa,or_false]at hx;rcases hx with rfl|rfl|rfl|rfl|rfl|rfl|rfl|rfl
 ·exact⟨Img.of_image Ce.1 Ce.2,rfl⟩
 ·exact⟨Img.of_image Nm.1 Nm.2,rfl⟩
 ·exact⟨Img.of_image EO.1 EO.2,rfl⟩
 ·exact⟨Img.of_image Cc.1 Cc.2,rfl⟩
 ·exact⟨Img.of_image vY.1 vY.2,rfl⟩
 ·exact⟨Img.of_image Cd.1 Cd.2,rfl⟩
 ·exact⟨Img.of_image jO.1 jO.2,rfl⟩
 ·exact⟨Img.of_image bM.1 bM.2,rfl⟩
theorem VA:∀x∈VB,Img Tryz.prog x.1 x.2:=by
 intro x hx;simp only[VB,zAb,zAa,or_false]at hx;rcases hx with rfl|rfl|rfl|rfl|rfl|rfl|rfl|rfl|rfl|rfl|rfl|rfl|rfl|rfl|rfl|rfl|rfl
 ·exact Img.of_imageE EP.1 EP.2
 ·exact Img.of_imageE kV.1 kV.2
 ·exact Img.of_image s4.1 s4.2
 ·exact Img.of_imageE kU.1 kU.2
 ·exact Img.of_imageE nY.1 nY.2
 ·exact Img.of_imageE uE.1 uE.2
 ·exact Img.of_imageE qA.1 qA.2
 ·exact Img.of_imageE qz.1 qz.2
 ·exact Img.of_imageE pH.1 pH.2
 ·exact Img.of_imageE fC.1 fC.2
 ·exact Img.of_imageE i4.1 i4.2
 ·exact Img.of_imageE jR.1 jR.2
 ·exact Img.of_imageE oP.1 oP.2
 ·exact Img.of_imageE oS.1 oS.2
 ·exact Img.of_imageE oT.1 oT.2
 ·exact Img.of_imageE oQ.1 oQ.2
 ·exact Img.of_imageE m3.1 m3.2
theorem j4:TabOK Tryz.prog Bh:=by
 refine⟨fun f D h=>Vy _ (rZ h),fun f D h=>VA _ (rZ h),fun f us r h=>?_,fun f D h=>(by cases h),fun f g us H r H' h=>by cases h⟩
 simp only[Bh,RH]at h;split at h
 ·rename_i hf
  subst hf;split at h
  ·split at h
   ·rename_i s n hn
    cases h;have:=f_bytealg_IndexByteString s (zAd n.toNat);rwa[hn]at this
   ·cases h
  ·cases h
 ·cases h
end Go.Abs
end
section
namespace Go.Abs
open Go.Proofs Go.Abs.F
noncomputable def tqP:List (Nat×FD):=[
 (fN,⟨zOb Fk,[.t 2],1,[]⟩),
 (uy,⟨zOb uG,[.t 2],1,[]⟩),
 (ux,⟨zOb uF,[.t 2],1,[]⟩),
 (MW,⟨zOb NC,[.t 2],1,[]⟩),
 (sr,⟨zOb sB,[.t 2],1,[]⟩),
 (P8,⟨zOb Qq,[.t 2,.t 3],1,[]⟩),
 (xO,⟨zOb xZ,[.t 2],1,[]⟩),
 (IT,⟨zOb JE,[.t 4],2,[]⟩),
 (D5,⟨zOb EQ,[.t 8,.t 9],4,[]⟩),
 (jK,⟨zOb jO,[.t 4],2,[]⟩),
 (BH,⟨zOb Cb,[.t 2],1,[]⟩),
 (ML,⟨zOb Nl,[.c 2 4 true,.t 3],1,[]⟩),
 (sq,⟨zOb sA,[.t 2],1,[]⟩),
 (so,⟨zOb sy,[.t 3],2,[]⟩),
 (sl,⟨zOb sx,[.t 2],1,[]⟩),
 (sj,⟨zOb su,[.t 2],1,[]⟩),
 (sU,⟨zOb sZ,[.t 2],1,[]⟩),
 (ur,⟨zOb uB,[.t 2],1,[]⟩),
 (Ab,⟨zOb Ak,[.c 2 4 true,.t 3],1,[]⟩),
 (BF,⟨zOb B9,[.c 2 4 true,.t 3],1,[]⟩),
 (BE,⟨zOb B8,[.t 2],1,[]⟩),
 (IR,⟨zOb JC,[.t 4],2,[]⟩),
 (D1,⟨zOb EL,[.t 2],1,[]⟩),
 (Aa,⟨zOb Aj,[.t 2],1,[]⟩),
 (MN,⟨zOc Nn,[.t 2,.t 3],1,[]⟩),
 (BG,⟨zOc Ca,[.t 2],1,[]⟩),
 (vI,⟨zOc vW,[.c 2 2 true,.t 3],1,[]⟩),
 (vH,⟨zOc vV,[.c 2 4 true,.t 3],1,[]⟩),
 (y9,⟨zOb zi,[.t 2],1,[]⟩),
 (BU,⟨zOb Ct,[.t 2],1,[]⟩),
 (Hx,⟨zOb HP,[.t 2],1,[]⟩),
 (vJ,⟨zOb vX,[.t 4],2,[]⟩),
 (qp,⟨zOc qF,[.t 4],2,[]⟩),
 (bL,⟨zOb bM,[.t 4],2,[]⟩),
 (jL,⟨zOb jP,[.t 4],2,[]⟩),
 (cX,⟨zOb c6,[.t 4],2,[]⟩),
 (cW,⟨zOb c5,[.t 4],2,[]⟩),
 (dM,⟨zOb dN,[.t 4],2,[]⟩),
 (jM,⟨zOb jQ,[.t 4,.t 5],2,[]⟩),
 (vG,⟨zOb vU,[.t 4],2,[]⟩)]
theorem acn:∀x∈tqP,Img Tryz.prog x.1 x.2/\x.2.ps=[]:=by
 intro x hx;simp only[tqP,zAb,zAa,or_false]at hx;rcases hx with rfl|rfl|rfl|rfl|rfl|rfl|rfl|rfl|rfl|rfl|rfl|rfl|rfl|rfl|rfl|rfl|rfl|rfl|rfl|rfl|rfl|rfl|rfl|rfl|rfl|rfl|rfl|rfl|rfl|rfl|rfl|rfl|rfl|rfl|rfl|rfl|rfl|rfl|rfl|rfl
 ·exact⟨Img.of_image Fk.1 Fk.2,rfl⟩
 ·exact⟨Img.of_image uG.1 uG.2,rfl⟩
 ·exact⟨Img.of_image uF.1 uF.2,rfl⟩
 ·exact⟨Img.of_image NC.1 NC.2,rfl⟩
 ·exact⟨Img.of_image sB.1 sB.2,rfl⟩
 ·exact⟨Img.of_image Qq.1 Qq.2,rfl⟩
 ·exact⟨Img.of_image xZ.1 xZ.2,rfl⟩
 ·exact⟨Img.of_image JE.1 JE.2,rfl⟩
 ·exact⟨Img.of_image EQ.1 EQ.2,rfl⟩
 ·exact⟨Img.of_image jO.1 jO.2,rfl⟩
 ·exact⟨Img.of_image Cb.1 Cb.2,rfl⟩
 ·exact⟨Img.of_image Nl.1 Nl.2,rfl⟩
 ·exact⟨Img.of_image sA.1 sA.2,rfl⟩
 ·exact⟨Img.of_image sy.1 sy.2,rfl⟩
 ·exact⟨Img.of_image sx.1 sx.2,rfl⟩
 ·exact⟨Img.of_image su.1 su.2,rfl⟩
 ·exact⟨Img.of_image sZ.1 sZ.2,rfl⟩
 ·exact⟨Img.of_image uB.1 uB.2,rfl⟩
 ·exact⟨Img.of_image Ak.1 Ak.2,rfl⟩
 ·exact⟨Img.of_image B9.1 B9.2,rfl⟩
 ·exact⟨Img.of_image B8.1 B8.2,rfl⟩
 ·exact⟨Img.of_image JC.1 JC.2,rfl⟩
 ·exact⟨Img.of_image EL.1 EL.2,rfl⟩
 ·exact⟨Img.of_image Aj.1 Aj.2,rfl⟩
 ·exact⟨Img.of_imageE Nn.1 Nn.2,rfl⟩
 ·exact⟨Img.of_imageE Ca.1 Ca.2,rfl⟩
 ·exact⟨Img.of_imageE vW.1 vW.2,rfl⟩
 ·exact⟨Img.of_imageE vV.1 vV.2,rfl⟩
 ·exact⟨Img.of_image zi.1 zi.2,rfl⟩
 ·exact⟨Img.of_image Ct.1 Ct.2,rfl⟩
 ·exact⟨Img.of_image HP.1 HP.2,rfl⟩
 ·exact⟨Img.of_image vX.1 vX.2,rfl⟩
 ·exact⟨Img.of_imageE qF.1 qF.2,rfl⟩
 ·exact⟨Img.of_image bM.1 bM.2,rfl⟩
 ·exact⟨Img.of_image jP.1 jP.2,rfl⟩
 ·exact⟨Img.of_image c6.1 c6.2,rfl⟩
 ·exact⟨Img.of_image c5.1 c5.2,rfl⟩
 ·exact⟨Img.of_image dN.1 dN.2,rfl⟩
 ·exact⟨Img.of_image jQ.1 jQ.2,rfl⟩
 ·exact⟨Img.of_image vU.1 vU.2,rfl⟩
noncomputable def tqQ:List (Nat×FD):=[
 (Jm,⟨zOc Ka,[.t 2],1,[]⟩),
 (D7,⟨zOc ET,[.t 2],1,[]⟩),
 (D6,⟨zOc ER,[.t 4],2,[]⟩),
 (P7,⟨zOc Qp,[.t 2],1,[]⟩),
 (MJ,⟨zOc Nk,[.t 2],1,[]⟩),
 (gF,⟨zOc JB,[.t 2],1,[]⟩)]
theorem acm:∀x∈tqQ,Img Tryz.prog x.1 x.2/\x.2.ps=[]:=by
 intro x hx;simp only[tqQ,zAb,zAa,or_false]at hx;rcases hx with rfl|rfl|rfl|rfl|rfl|rfl
 ·exact⟨Img.of_imageE Ka.1 Ka.2,rfl⟩
 ·exact⟨Img.of_imageE ET.1 ET.2,rfl⟩
 ·exact⟨Img.of_imageE ER.1 ER.2,rfl⟩
 ·exact⟨Img.of_imageE Qp.1 Qp.2,rfl⟩
 ·exact⟨Img.of_imageE Nk.1 Nk.2,rfl⟩
 ·exact⟨Img.of_imageE JB.1 JB.2,rfl⟩
noncomputable def tqH:List (Nat×FD):=[
 (M5,⟨zOc NH,[.t 0],0,[]⟩),
 (EB,⟨zOc Fq,[.t 0],0,[]⟩),
 (qn,⟨jl,[],2,[0]⟩),
 (qm,⟨zOc qD,[],2,[0]⟩),
 (nQ,⟨zOc n4,[],2,[0]⟩),
 (nP,⟨zOc n3,[],2,[0]⟩),
 (ql,⟨jh,[],2,[0]⟩),
 (nO,⟨zOc nZ,[.t 2],1,[0]⟩),
 (mY,⟨zOc m4,[],2,[0]⟩),
 (pF,⟨zOc pI,[.t 2],1,[0]⟩),
 (nR,⟨zOc n5,[.t 2],1,[0]⟩),
 (fp,⟨zOc fq,[.t 2],1,[]⟩),
 (jq,⟨zOc jv,[.t 4],2,[]⟩),
 (jp,⟨zOc ju,[.t 4,.t 5],2,[]⟩),
 (dD,⟨zOc dE,[.t 4,.t 5],2,[]⟩),
 (IS,⟨zOc JD,[.t 0],0,[]⟩),
 (qi,⟨zOc qy,[.t 3],2,[1]⟩),
 (D2,⟨zOc EM,[.t 4],2,[1]⟩),
 (lC,⟨zOc lD,[.t 4],2,[]⟩),
 (gr,⟨zOc gu,[.t 4],2,[]⟩),
 (BD,⟨zOc B7,[],2,[]⟩),
 (D0,⟨zOc EK,[],2,[]⟩),
 (MI,⟨zOc Nj,[],2,[]⟩),
 (IQ,⟨zOc JA,[],2,[]⟩),
 (oO,⟨zOc oU,[.t 0],0,[]⟩)]
theorem aco:∀x∈tqH,Img Tryz.prog x.1 x.2:=by
 intro x hx;simp only[tqH,zAb,zAa,or_false]at hx;rcases hx with rfl|rfl|rfl|rfl|rfl|rfl|rfl|rfl|rfl|rfl|rfl|rfl|rfl|rfl|rfl|rfl|rfl|rfl|rfl|rfl|rfl|rfl|rfl|rfl|rfl
 ·exact Img.of_imageE NH.1 NH.2
 ·exact Img.of_imageE Fq.1 Fq.2
 ·exact Img.of_imageE qE.1 qE.2
 ·exact Img.of_imageE qD.1 qD.2
 ·exact Img.of_imageE n4.1 n4.2
 ·exact Img.of_imageE n3.1 n3.2
 ·exact Img.of_imageE qC.1 qC.2
 ·exact Img.of_imageE nZ.1 nZ.2
 ·exact Img.of_imageE m4.1 m4.2
 ·exact Img.of_imageE pI.1 pI.2
 ·exact Img.of_imageE n5.1 n5.2
 ·exact Img.of_imageE fq.1 fq.2
 ·exact Img.of_imageE jv.1 jv.2
 ·exact Img.of_imageE ju.1 ju.2
 ·exact Img.of_imageE dE.1 dE.2
 ·exact Img.of_imageE JD.1 JD.2
 ·exact Img.of_imageE qy.1 qy.2
 ·exact Img.of_imageE EM.1 EM.2
 ·exact Img.of_imageE lD.1 lD.2
 ·exact Img.of_imageE gu.1 gu.2
 ·exact Img.of_imageE B7.1 B7.2
 ·exact Img.of_imageE EK.1 EK.2
 ·exact Img.of_imageE Nj.1 Nj.2
 ·exact Img.of_imageE JA.1 JA.2
 ·exact Img.of_imageE oU.1 oU.2
def ckQ(us:List V)(H:List (Option Ob)):Option (V×List (Option Ob)):=match us,H with
 |[.q 0 j 0 0 0],[some (.pool ms)]=>match ms[j]? with
   |some (.bx t [x,y])=>if t=dQ then(match x with
     | .nilptr=>some (.tup [],[some (.pool (ms.set j (.bx dQ [.q 0 j 0 0 0,y])))])
     | .q 0 i 0 0 0=>if i=j then some (.tup [],[some (.pool (ms.set j (.bx dQ [.q 0 j 0 0 0,y])))])else none
     |_=>none)else none
   |_=>none
 |_,_=>none
def tqK(f:FuncId):Option (List V->List (Option Ob)->Option (V×List (Option Ob))):=if f=aR then some ckQ else none
noncomputable def acp:FTab:=⟨lkD tqP,lkD tqH,RH,lkD tqQ,tqK⟩
theorem adI{us:List V}{H H':List (Option Ob)}{r:V}(h:ckQ us H=some (r,H')):FnH Tryz.prog aR [] us H r H':=by
 unfold ckQ at h;split at h
 ·rename_i j ms
  split at h
  ·rename_i t x y hj
   split at h
   ·rename_i ht
    subst ht;split at h
    ·cases h;exact qX hj (.inl rfl)
    ·split at h
     ·rename_i hij;subst hij;cases h;exact qX hj (.inr rfl)
     ·cases h
    ·cases h
   ·cases h
  ·cases h
 ·cases h
theorem AN:TabOK Tryz.prog acp:=by
 refine⟨fun f D h=>acn _ (rZ h),fun f D h=>aco _ (rZ h),fun f us r h=>?_,fun f D h=>acm _ (rZ h),fun f g us H r H' h hg=>?_⟩
 ·simp only[acp,RH]at h
  split at h
  ·rename_i hf
   subst hf;split at h
   ·split at h
    ·rename_i s n hn
     cases h;have:=Go.Abs.f_bytealg_IndexByteString s (zAd n.toNat);rwa[hn]at this
    ·cases h
   ·cases h
  ·cases h
 ·simp only[acp,tqK]at h
  split at h
  ·rename_i hf
   subst hf;cases h;exact adI hg
  ·cases h
end Go.Abs
end
section
namespace Go.Abs.F
open Go.Proofs
theorem QN:Fn Tryz.prog gF [.seq 5 [.strct [.int .i64 1,.str [98],.seq 2 [],.str [],.seq 5 [.strct [.int .i64 2,.str [],.seq 2 [],.str [120],.seq 5 []]]]]] (.str [60,98,62,120,60,47,98,62]):=
 ((bY mixed AN 60 14).p _ _ _ false (by kernel_rfl)).1
theorem Oq:Fn Tryz.prog gF [.seq 5 []] (.str []):=((bY mixed AN 60 14).p _ _ _ false (by kernel_rfl)).1
theorem OC:Fn Tryz.prog fN [.seq 1 [.int .u8 120]] (.seq 5 [.strct [.int .i64 2,.str [],.seq 2 [],.str [120],.seq 5 []]]):=((bY mixed AN 60 20).p _ _ _ false (by kernel_rfl)).1
theorem QX:Fn Tryz.prog fN [.seq 1 [.int .u8 60,.int .u8 98,.int .u8 32,.int .u8 105,.int .u8 100,.int .u8 61,.int .u8 49,.int .u8 62,.int .u8 120,.int .u8 60,.int .u8 105,.int .u8 62,.int .u8 121,.int .u8 60,.int .u8 47,.int .u8 105,.int .u8 62,.int .u8 60,.int .u8 47,.int .u8 98,.int .u8 62]] (.seq 5 [.strct [.int .i64 1,.str [98],.seq 2 [.strct [.str [105,100],.str [49]]],.str [],.seq 5 [.strct [.int .i64 2,.str [],.seq 2 [],.str [120],.seq 5 []],.strct [.int .i64 1,.str [105],.seq 2 [],.str [],.seq 5 [.strct [.int .i64 2,.str [],.seq 2 [],.str [121],.seq 5 []]]]]]]):=((bY mixed AN 60 20).p _ _ _ false (by kernel_rfl)).1
end Go.Abs.F
end
