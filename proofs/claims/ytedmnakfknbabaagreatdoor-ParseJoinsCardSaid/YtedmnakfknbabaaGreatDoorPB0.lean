/- A text that grows (strings. No condition. -/
import Derived.Test.YtedmnakfknbabaaGreatDoorPCodeP
import Derived.Shelf.Strings.Builder1
import Derived.Test.YtedmnakfknbabaaGreatDoorPF1
set_option linter.all false
set_option maxHeartbeats 0
set_option maxRecDepth 100000
open List renaming reduceReplicate→zAa,set→zAc
open BitVec renaming ofInt→zAb
open Nat renaming zero_le→zAd
open Option.some renaming injEq→zAe
section
namespace Go.Abs.F
open Go.Proofs Go.RowKit
abbrev bz:Nat:=95
def Fv:Go.Shelf.Ren:=⟨fun x=>match x with|240=>95|276=>114|n=>n,fun x=>match x with|72=>99|70=>97|164=>151|37=>40|n=>n,fun n=>n⟩
theorem BZ:Lays.n240 Tryz.prog Fv where
 mixed:=by kernel_rfl
 f240:=Tryz.func95.trans (congrArg some (by kernel_rfl))
 f276:=Tryz.func114.trans (congrArg some (by kernel_rfl))
 t0:=Tryz.underlying0
 a0:=Tryz.isAgg0
 z0:=Tryz.sizeOf0
 v0:=Tryz.zeroValue0
 t4:=Tryz.underlying4
 a4:=Tryz.isAgg4
 z4:=Tryz.sizeOf4
 v4:=Tryz.zeroValue4
 t9:=Tryz.underlying9
 a9:=Tryz.isAgg9
 z9:=Tryz.sizeOf9
 v9:=Tryz.zeroValue9
 t20:=Tryz.underlying20
 a20:=Tryz.isAgg20
 z20:=Tryz.sizeOf20
 v20:=Tryz.zeroValue20
 t70:=Tryz.underlying97
 a70:=Tryz.isAgg97
 z70:=Tryz.sizeOf97
 v70:=Tryz.zeroValue97
 t72:=Tryz.underlying99
 a72:=Tryz.isAgg99
 z72:=Tryz.sizeOf99
 v72:=Tryz.zeroValue99
 t164:=Tryz.underlying151
 a164:=Tryz.isAgg151
 z164:=Tryz.sizeOf151
 v164:=Tryz.zeroValue151
theorem EU:Builder.X72 Tryz.prog Fv where
 sizeBuilder:=by kernel_rfl
 liesBuilder:=by kernel_rfl
theorem Fh{w:World}{g:Nat}{arr:Array Value}{T:TypeId}{fz:Nat×Nat}(h:w.heap[g]?=some (.cells arr T fz))(o:Nat)(v:Value):w.setCell ⟨g,o,none⟩ v=w.setRow g (arr.setIfInBounds o v):=by
 unfold World.setCell World.setRow;congr 1;apply Array.ext_getElem?;intro k;simp only[Array.getElem?_modify];by_cases hk:g=k
 ·subst hk
  simp[h]
 ·simp[hk]
theorem oF{ms:List Po}{j:Nat}{x y:V}(hj:ms[j]?=some (.bx 99 [x,y]))(hx:x=.nilptr\/x=.q 0 j 0 0 0):
 FnH Tryz.prog bz [] [.q 0 j 0 0 0] [some (.pool ms)] (.tup []) [some (.pool (ms.set j (.bx 99 [.q 0 j 0 0 0,y])))]:=by
 intro M w κ cs J hJC hH hus o a Nx Q hN;have hcall:∀args w,(callFunc bz args).run Tryz.prog w=.ok (.enter bz args) w:=fun args w=>enters_of (f:=bz) BZ.f240 (by kernel_rfl) rfl args w
 rw[hcall,Oper.upon_enter];obtain⟨cl⟩:=cs;simp only[ae]at hus;obtain⟨c,cs',rfl,hc,rfl⟩:=hus;have hp:([some (.pool ms)]:List (Option Ob))[0]?=some (some (.pool ms)):=rfl
 have H0:Rel 0 M (fx κ [some (.pool ms)] w [] ⟨[c]⟩ J) w κ M ⟨[],[some (.pool ms)]⟩ { tmps:=#[],defers:=[] } w:=
  { dfr:=rfl
    jst:=hH.jst
    pin:=fun i hi=>by cases hi
    size:=by simp
    regs:=fun t v ht=>by simp[lk]at ht
    heap:=hH.heap
    inj:=hH.inj
    snd:=hH.snd
    sep:=hH.sep
    sub:=⟨fun _ _ h=>h,hH.fmS,fun _ _ _=>zAd _,zAd _,hH.gl⟩
    new:=fun _ _ h=>.inl h
    base:=rfl
    blw:=Und.refl _ _ }
 simp only[rep,XX]at hc;have hq:=hc.2.2 ms hp;simp only[qAt,hj]at hq;obtain⟨b,hb1,hb2⟩:=hq trivial;subst hb2;obtain⟨_,hpo,hdis,hown,hbl,_⟩:=H0.heap 0 _ hp;obtain⟨b',arr,T,h1,h3,h4,h5,hT⟩:=hpo j _ hj;rw[hb1]at h1;simp only[Value.pointer.injEq,zAe,Addr.mk.injEq,and_true]at h1;subst h1;have hT:T=99:=hT.resolve_left (by decide)
 subst hT;simp only[ae]at h4;obtain⟨cx,l1,e1,hcx,cy,l2,e2,hcy,e3⟩:=h4;subst e3;subst e2;have harr:arr=#[cx,cy]:=by apply Array.ext';simpa using e1
 subst harr;have hsh:w.shape? b=some (99,2):=by simp[World.shape?,h3]
 have hc0:w.cell? ⟨b,0,none⟩=some cx:=by simp[World.cell?,h3]
 have hfz:w.frozen? ⟨b,0,none⟩=false:=by simp[World.frozen?,h3]
 have hlt:j<ms.length:=(List.getElem?_eq_some_iff.1 hj).1;have hself:∀(w':World)(κ':Kap)(M':Mem),True:=fun _ _ _=>trivial;have hset:ms.set j (.bx 99 [.q 0 j 0 0 0,y])=ms.set j (.bx 99 [.q 0 j 0 0 0,y]):=rfl
 have hpt:rep M (PX (XX κ [some (.pool ms)])) (.q 0 j 0 0 0) (.pointer (some ⟨b,0,none⟩)):=by
  have h9:=l4 (M:=M) (κ:=κ) hp (k:=0) (j:=j) (n:=0) (i:=0) (off:=0) (c:=.pointer (some ⟨b,0,none⟩)) rfl (by
   simp only[qAt,hj];exact fun _=>⟨b,hb1,rfl⟩)
  simpa only[rep,PX]using h9
 rcases hx with rfl|rfl
 ·simp only[rep]at hcx
  subst hcx;refine(Any.Builder_copyCheck_fresh BZ EU b w hc0 hsh hfz).mono ?_;rintro e' w' ⟨rfl,rfl⟩;have hw:=Fh h3 0 (.pointer (some ⟨b,0,none⟩));rw[hw];have hbb:κ.bl 0 b:=(hbl b).2 ⟨j,_,hj,rfl,by rw[hb1];rfl⟩
  have hget:(ms.set j (.bx 99 [.q 0 j 0 0 0,y]))[j]?=some (.bx 99 [.q 0 j 0 0 0,y]):=by simp[hlt]
  obtain⟨κ',e1,H',hX⟩:=H0.setMem (m':=.bx 99 [.q 0 j 0 0 0,y]) hp hj rfl (kv:=κ.row 0 j) (cE (cs:=#[.pointer (some ⟨b,0,none⟩),cy]) (hown b hbb) fun cur T z hc=>by rw[h3]at hc;cases hc;rfl) (fun k _ hne=>setRow_other w b k _ (fun e=>hne (by rw[hb1,e];rfl))) (fun g hg=>.inl hg) (fun κ' er k n i off c hq=>by
   simp only[qAt,hj]at hq;simp only[qAt,hget,er];exact hq) (fun κ' X er hX=>by
   simp only[fY];refine⟨b,_,99,by rw[er,hb1],setRow_heap w b _ _ 99 (0,0) h3,?_,fun u hu=>?_,.inr rfl⟩
   ·refine aI (X:=PX (XX κ [some (.pool ms)])) (fun _ _ h=>h) hX _ _ ?_
    simp only[ae];exact⟨_,_,rfl,hpt,_,_,rfl,hcy,rfl⟩
   ·simp at hu
    rcases hu with rfl|rfl
    ·rfl
    ·exact h5 _ (by simp))
  refine hN (.tuple #[]) M _ κ' (by simp[rep,ae]) H'.blw ⟨H'.heap,H'.inj,H'.snd,H'.sep,H'.sub.fmS,H'.sub.gl,H'.jst⟩ (fun _ _ h=>h) (fun _ _ h=>.inl h) (fun i hi=>by cases hi)
 ·have hq2:=hcx
  have hms:ms.set j (.bx 99 [.q 0 j 0 0 0,y])=ms:=by
   apply List.ext_getElem?;intro k;rw[List.getElem?_set];split
   ·rename_i e
    subst e;exact hj.symm
   ·rfl
  rw[hms]at hN
  have hcx':cx=.pointer (some ⟨b,0,none⟩):=by
   simp only[rep,PX,XX]at hcx;have hq:=hcx.2.2 ms hp;simp only[qAt,hj]at hq;obtain⟨b2,k1,k2⟩:=hq trivial;rw[hb1]at k1;cases k1;exact k2
  subst hcx';refine(Any.Builder_copyCheck_used BZ EU b w hc0).mono ?_;rintro e' w' ⟨rfl,rfl⟩;exact hN (.tuple #[]) M w' κ (by simp[rep,ae]) (Und.refl _ _) hH (fun _ _ h=>h) (fun _ _ h=>.inl h) (fun i hi=>by cases hi)
end Go.Abs.F
end
section
namespace Go.Abs.F
open Go.Proofs Go.RowKit
attribute [-simp] getElem?_pos Option.not_isSome List.map_map
def sbP(a:V)(s:List UInt8):List (Option Ob):=[some (.pool [.byt 5 s,.bx 99 [a,.q 1 0 s.length 0 0]])]
def sbA(a:V):Prop:=a=.nilptr\/a=.q 0 1 0 0 0
theorem dj{a:V}{s t:List UInt8}(ha:sbA a)(hl:s.length+t.length<=140737488355328):
 FnH Tryz.prog ip [] [.q 0 1 0 0 0,.str t] (sbP a s) (.tup [.int .i64 t.length,.niliface]) (sbP (.q 0 1 0 0 0) (s++t)):=by
 have hc:=oF (ms:=[.byt 5 s,.bx 99 [a,.q 1 0 s.length 0 0]]) (j:=1) (x:=a) (y:=.q 1 0 s.length 0 0) rfl ha;simp only[zAc]at hc;unfold sbP;refine FnH.of_image mixed iv iu rfl fun ho hh=>?_;unfold dz;simp(disch:=omega) [-zAa];refine ah [] 1 [0] (by simp) (by simp) (by simp) (by simp) hc (by simp) fun _ _=>?_
 simp(disch:=omega) [-zAa]
theorem oI{a:V}{s:List UInt8}(c:UInt8)(ha:sbA a)(hl:s.length<140737488355328):
 FnH Tryz.prog jf [] [.q 0 1 0 0 0,bV c] (sbP a s) .niliface (sbP (.q 0 1 0 0 0) (s++[c])):=by
 have hc:=oF (ms:=[.byt 5 s,.bx 99 [a,.q 1 0 s.length 0 0]]) (j:=1) (x:=a) (y:=.q 1 0 s.length 0 0) rfl ha;simp only[zAc]at hc;unfold sbP;refine FnH.of_image mixed jl jh rfl fun ho hh=>?_;unfold dW;simp(disch:=omega) [-zAa,bV];refine ah [] 1 [0] (by simp) (by simp) (by simp) (by simp) hc (by simp) fun _ _=>?_
 simp(disch:=omega) [-zAa,bV]
theorem th{a:V}{s:List UInt8}:FnH Tryz.prog kP [] [.q 0 1 0 0 0] (sbP a s) (.str s) [some (.pool [if s=[]then .byt 5 s else .no,.bx 99 [a,.q 1 0 s.length 0 0]])]:=by
 unfold sbP;refine FnH.of_image mixed kT kR rfl fun ho hh=>?_;unfold fh;by_cases hs:s=[]
 ·subst hs
  simp(disch:=omega) [-zAa]
 ·simp(disch:=omega) [-zAa,hs]
theorem cu32{n:Nat}(h:n<=4294967295):qS .u32 (n:Int)=some (.int .u32 (n:Int)):=by
 simp only[qS,Go.IntKind.wrap_u32];congr 2;omega
theorem cu8{n m:Nat}(h:m=n%256):qS .u8 (n:Int)=some (.int .u8 (m:Int)):=by
 subst h;simp only[qS,Go.IntKind.wrap_u8];congr 2
theorem shK{n m k:Nat}(p:Nat)(hp:(2:Int)^k=(p:Int))(h:m=n/p)(hk:k<=31):nO .shr .i32 (n:Int) (k:Int)=some (.int .i32 (m:Int)):=by
 subst h;simp only[nO];rw[if_neg (by omega)]
 congr 2
 have e:min ((k:Int).toNat) IntKind.i32.bits=k:=by
  show min ((k:Int).toNat) 32=k
  omega
 rw[e,hp,Int.fdiv_eq_ediv_of_nonneg _ (by omega)]
 simp
theorem P9{n q:Nat}(h:n<256)(hq:q=n%64):ez .and .u8 (n:Int) 63=some (.int .u8 (q:Int)):=by
 subst hq;have hw:∀m:Nat,m<256->IntKind.u8.wrap (m:Int)=m:=fun m hm=>t8 _ (by omega) (by omega)
 have key:∀m:Fin 256,(zAb 8 ((m.val:Nat):Int) &&& zAb 8 63).toNat=m.val%64:=by decide
 simp only[ez];have:=key ⟨n,h⟩;simp only at this;rw[show IntKind.u8.bits=8 from rfl,this,hw _ (by omega)]
theorem orC(c k:Nat)(hc:∀m:Fin k,(zAb 8 (c:Int) ||| zAb 8 ((m.val:Nat):Int)).toNat=c+m.val)(hk:c+k<=256){n:Nat}(h:n<k):ez .or .u8 (c:Int) (n:Int)=some (.int .u8 ((c+n:Nat):Int)):=by
 simp only[ez];have:=hc ⟨n,h⟩;simp only at this;rw[show IntKind.u8.bits=8 from rfl,this,t8 _ (by omega) (by omega)]
theorem or192{n:Nat}(h:n<32):ez .or .u8 192 (n:Int)=some (.int .u8 ((192+n:Nat):Int)):=orC 192 32 (by decide) (by decide) h
theorem Tf{n:Nat}(h:n<16):ez .or .u8 224 (n:Int)=some (.int .u8 ((224+n:Nat):Int)):=orC 224 16 (by decide) (by decide) h
theorem or240{n:Nat}(h:n<8):ez .or .u8 240 (n:Int)=some (.int .u8 ((240+n:Nat):Int)):=orC 240 8 (by decide) (by decide) h
theorem Ot{n:Nat}(h:n<64):ez .or .u8 128 (n:Int)=some (.int .u8 ((128+n:Nat):Int)):=orC 128 64 (by decide) (by decide) h
theorem oH{x y:V}{s:List UInt8}(r:Nat)(h1:128<=r)(h2:r<=1114111)(hl:s.length<140737488355320):
 FnH Tryz.prog fZ [] [.q 1 0 s.length 0 0,rV r] [some (.pool [.byt 5 s,.bx 99 [x,y]])] (.q 1 0 (s.length+(aw r).length) 0 0) [some (.pool [.byt 5 (s++aw r),.bx 99 [x,y]])]:=by
 refine FnH.of_image mixed gk gb rfl fun ho hh=>?_;unfold cP;have eu:=cu32 (n:=r) (by omega)
 obtain⟨A,hA⟩:∃A,A=r/64:=⟨_,rfl⟩;obtain⟨A2,hA2⟩:∃A,A=r/4096:=⟨_,rfl⟩;obtain⟨A3,hA3⟩:∃A,A=r/262144:=⟨_,rfl⟩;obtain⟨B,hB⟩:∃B,B=r%256:=⟨_,rfl⟩;obtain⟨B1,hB1⟩:∃B,B=A%256:=⟨_,rfl⟩;obtain⟨B2,hB2⟩:∃B,B=A2%256:=⟨_,rfl⟩;obtain⟨B3,hB3⟩:∃B,B=A3%256:=⟨_,rfl⟩;obtain⟨C,hC⟩:∃C,C=B%64:=⟨_,rfl⟩;obtain⟨C1,hC1⟩:∃C,C=B1%64:=⟨_,rfl⟩;obtain⟨C2,hC2⟩:∃C,C=B2%64:=⟨_,rfl⟩;have e1:nO .shr .i32 (r:Int) 6=some (.int .i32 (A:Int)):=shK (k:=6) 64 (by decide) hA (by decide)
 have e2:nO .shr .i32 (r:Int) 12=some (.int .i32 (A2:Int)):=shK (k:=12) 4096 (by decide) hA2 (by decide)
 have e3:nO .shr .i32 (r:Int) 18=some (.int .i32 (A3:Int)):=shK (k:=18) 262144 (by decide) hA3 (by decide)
 have f0:qS .u8 (r:Int)=some (.int .u8 (B:Int)):=cu8 hB;have f1:qS .u8 (A:Int)=some (.int .u8 (B1:Int)):=cu8 hB1;have f2:qS .u8 (A2:Int)=some (.int .u8 (B2:Int)):=cu8 hB2;have f3:qS .u8 (A3:Int)=some (.int .u8 (B3:Int)):=cu8 hB3;have g0:ez .and .u8 (B:Int) 63=some (.int .u8 (C:Int)):=P9 (by omega) hC
 have g1:ez .and .u8 (B1:Int) 63=some (.int .u8 (C1:Int)):=P9 (by omega) hC1
 have g2:ez .and .u8 (B2:Int) 63=some (.int .u8 (C2:Int)):=P9 (by omega) hC2
 have k0:ez .or .u8 128 (C:Int)=some (.int .u8 ((128+C:Nat):Int)):=Ot (by omega)
 have k1:ez .or .u8 128 (C1:Int)=some (.int .u8 ((128+C1:Nat):Int)):=Ot (by omega)
 have k2:ez .or .u8 128 (C2:Int)=some (.int .u8 ((128+C2:Nat):Int)):=Ot (by omega)
 generalize hR:aw r=R;unfold aw at hR;simp only at hR;by_cases hb:1114111<r\/(55296<=r/\r<=57343)
 ·rw[if_pos hb]at hR
  simp(disch:=omega) [-zAa,rV,-nn,eu,aK]
  repeat' (first
   |(refine BrKd.mk (fun h=>?_) (fun h=>?_)<;>simp(disch:=omega) [-nn, *,aK])
   |(refine BrK.mk (fun h=>?_) (fun h=>?_)<;>simp(disch:=omega) [-nn, *,aK]))
  all_goals first|omega|(subst hR;decide)
 ·rw[if_neg hb]at hR
  simp(disch:=omega) [-zAa,rV,-nn,eu,aK];refine BrKd.mk (fun h=>?_) (fun h=>?_)
  ·have k3:ez .or .u8 192 (B1:Int)=some (.int .u8 ((192+B1:Nat):Int)):=or192 (by omega)
   simp(disch:=omega) [-zAa,-nn,e1,f0,f1,g0,k0,k3,aK];rw[if_neg (by omega),if_pos (by omega)]at hR
   subst hR;have t1:(192+(B1:Int)).toNat=192+r/64:=by omega
   have t2:(128+(C:Int)).toNat=128+r%64:=by omega
   rw[t1,t2];exact⟨rfl,rfl⟩
  ·simp(disch:=omega) [-zAa,-nn,h,aK]
   refine BrK.mk (fun h3=>?_) (fun h3=>?_)
   ·simp only[decide_eq_true_eq]at h3
    simp(disch:=omega) [-zAa,-nn,aK];have k4:ez .or .u8 224 (B2:Int)=some (.int .u8 ((224+B2:Nat):Int)):=Tf (by omega)
    simp(disch:=omega) [-zAa,-nn,e1,e2,f0,f1,f2,g0,g1,k0,k1,k4,aK];rw[if_neg (by omega),if_neg (by omega),if_pos (by omega)]at hR
    subst hR;have t1:(224+(B2:Int)).toNat=224+r/4096:=by omega
    have t2:(128+(C1:Int)).toNat=128+r/64%64:=by omega
    have t3:(128+(C:Int)).toNat=128+r%64:=by omega
    rw[t1,t2,t3];exact⟨rfl,rfl⟩
   ·simp only[decide_eq_false_iff_not]at h3
    by_cases h4:r<=65535
    ·have h5:57343<r:=by omega
     simp(disch:=omega) [-zAa,-nn,h3,h4,h5,aK];have k4:ez .or .u8 224 (B2:Int)=some (.int .u8 ((224+B2:Nat):Int)):=Tf (by omega)
     simp(disch:=omega) [-zAa,-nn,e1,e2,f0,f1,f2,g0,g1,k0,k1,k4,aK];rw[if_neg (by omega),if_neg (by omega),if_pos (by omega)]at hR
     subst hR;have t1:(224+(B2:Int)).toNat=224+r/4096:=by omega
     have t2:(128+(C1:Int)).toNat=128+r/64%64:=by omega
     have t3:(128+(C:Int)).toNat=128+r%64:=by omega
     rw[t1,t2,t3];exact⟨rfl,rfl⟩
    ·have h5:57343<r:=by omega
     have k5:ez .or .u8 240 (B3:Int)=some (.int .u8 ((240+B3:Nat):Int)):=or240 (by omega)
     simp(disch:=omega) [-zAa,-nn,h3,h4,h5,h2,e1,e2,e3,f0,f1,f2,f3,g0,g1,g2,k0,k1,k2,k5,aK];rw[if_neg (by omega),if_neg (by omega),if_neg (by omega)]at hR
     subst hR;have t0:(240+(B3:Int)).toNat=240+r/262144:=by omega
     have t1:(128+(C2:Int)).toNat=128+r/4096%64:=by omega
     have t2:(128+(C1:Int)).toNat=128+r/64%64:=by omega
     have t3:(128+(C:Int)).toNat=128+r%64:=by omega
     rw[t0,t1,t2,t3];exact⟨rfl,rfl⟩
theorem EF{x y:V}{s:List UInt8}(r:Nat)(h2:r<=1114111)(hl:s.length<140737488355320):
 FnH Tryz.prog kO [] [.q 1 0 s.length 0 0,rV r] [some (.pool [.byt 5 s,.bx 99 [x,y]])] (.q 1 0 (s.length+(aw r).length) 0 0) [some (.pool [.byt 5 (s++aw r),.bx 99 [x,y]])]:=by
 refine FnH.of_image mixed kS kQ rfl fun ho hh=>?_;unfold fg;have eu:=cu32 (n:=r) (by omega)
 by_cases hr:r<=127
 ·have e:aw r=[b8 r]:=by
   unfold aw;simp only;rw[if_neg (show ¬(1114111<r\/(55296<=r/\r<=57343)) by omega),if_pos (by omega)]
  rw[e];simp(disch:=omega) [-zAa,rV,eu,hr,aK,b8]
 ·simp(disch:=omega) [-zAa,rV,eu,hr,aK]
  refine ah [] 1 [0] (by simp) (by simp) (by simp) (by simp) (oH (x:=x) (y:=y) r (by omega) h2 hl) (by simp) fun _ _=>?_
  simp(disch:=omega) [-zAa,rV]
theorem ly{a:V}{s:List UInt8}(r:Nat)(h2:r<=1114111)(ha:sbA a)(hl:s.length<140737488355320):
 FnH Tryz.prog je [] [.q 0 1 0 0 0,rV r] (sbP a s) (.tup [.int .i64 (aw r).length,.niliface]) (sbP (.q 0 1 0 0 0) (s++aw r)):=by
 have hc:=oF (ms:=[.byt 5 s,.bx 99 [a,.q 1 0 s.length 0 0]]) (j:=1) (x:=a) (y:=.q 1 0 s.length 0 0) rfl ha;simp only[zAc]at hc;have hb:=eO r;unfold sbP;refine FnH.of_image mixed ji jg rfl fun ho hh=>?_;unfold dV;simp(disch:=omega) [-zAa,rV];refine ah [] 1 [0] (by simp) (by simp) (by simp) (by simp) hc (by simp) fun _ _=>?_
 simp(disch:=omega) [-zAa,rV];refine ah [] 1 [0] (by simp) (by simp) (by simp) (by simp) (EF (x:=.q 0 1 0 0 0) (y:=.q 1 0 s.length 0 0) r h2 hl) (by simp) fun _ _=>?_
 simp(disch:=omega) [-zAa,rV];omega
attribute [local simp] sbP
def p7(v:Bool)(c:UInt8):Str:=
 if c.toNat=38 then[38,97,109,112,59]else if c.toNat=60 then[38,108,116,59]else if c.toNat=62 then[38,103,116,59]else if c.toNat=34/\v=true then[38,113,117,111,116,59]else[c]
def bN(v:Bool):Str->Str
 |[]=>[]
 |c::s=>p7 v c++bN v s
theorem Hx(v:Bool)(c:UInt8):(p7 v c).length<=6:=by
 unfold p7
 repeat' split
 all_goals simp
theorem dS:sbA (.q 0 1 0 0 0):=.inr rfl
theorem xc:sbA .nilptr:=.inl rfl
theorem lL(s:Str)(v:Bool)(hs:s.length<=1000000000):Fn Tryz.prog zP [.str s,.bool v] (.str (bN v s)):=by
 refine FnE.fn ?_;refine FnE.of_imageQ mixed AF Ak rfl fun ho=>?_;unfold qy;clear ho;simp(disch:=omega) [-zAa];generalize hw:bN v s=w
 refine ay (fun(q:Nat×Str×V)=>⟨[(0,.str s),(1,.bool v),(5,.q 0 1 0 0 0),(9,.int .i64 s.length),(10,.int .i64 q.1)],[some (.pool [.byt 5 q.2.1,.bx 99 [q.2.2,.q 1 0 q.2.1.length 0 0]])]⟩)
  (fun q=>q.1<=s.length/\q.2.1.length<=6*q.1/\sbA q.2.2/\q.2.1++bN v (s.drop q.1)=w) (fun q=>s.length-q.1) [] _ (0,[],.nilptr) rfl (by simp) (by simp[hw,xc]) ?_
 rintro⟨k,out,a⟩ ⟨hk,hol,ha,hi⟩ N hN;simp only at hk hol ha hi
 have fin:∀τ:St,∀(e:Str),τ.nrm [0,1,5,9,10]=⟨[(0,.str s),(1,.bool v),(5,.q 0 1 0 0 0),(9,.int .i64 s.length),(10,.int .i64 ((k+1:Nat):Int))],[some (.pool [.byt 5 (out++e),.bx 99 [.q 0 1 0 0 0,.q 1 0 (out++e).length 0 0]])]⟩->k+1<=s.length->e.length<=6->(out++e)++bN v (s.drop (k+1))=w->N τ:=by
  intro τ e h1 h2 h3 h4;exact hN.out _<|Nx.mk (k+1,out++e,.q 0 1 0 0 0) h1 ⟨h2,by simp only[List.length_append];omega,dS,h4⟩ (by simp only;omega)
 rcases place s k hk with⟨he,hd⟩|⟨hlt,x,hx,hd⟩<;>rw[hd]at hi
 ·simp only[bN,List.append_nil]at hi
  subst hi;simp(disch:=omega) [-zAa,he];refine ah [] 1 [0] (by simp) (by simp) (by simp) (by simp) (th (a:=a) (s:=out)) (by simp) fun _ _=>?_
  simp(disch:=omega) [-zAa];exact⟨_,1,_,rfl,rfl,rfl⟩
 ·simp only[bN]at hi
  rw[<-List.append_assoc]at hi;have hbl:=Hx v x;have hx256:=x.toNat_lt;generalize heb:p7 v x=eb at *;unfold p7 at heb;replace hi:=hid hi;simp(disch:=omega) [-zAa,hx];by_cases c1:x.toNat=38
  ·rw[if_pos c1]at heb
   subst heb;simp(disch:=omega) [-zAa,c1];refine ah [] 1 [0] (by simp) (by simp) (by simp) (by simp) (dj (s:=out) (t:=[38,97,109,112,59]) ha (by simp;omega)) (by simp) fun _ _=>?_
   simp(disch:=omega) [-zAa];exact fin _ [38,97,109,112,59] (by simp) (by omega) hbl hi.out
  ·rw[if_neg c1]at heb
   by_cases c2:x.toNat=60
   ·rw[if_pos c2]at heb
    subst heb;simp(disch:=omega) [-zAa,c2];refine ah [] 1 [0] (by simp) (by simp) (by simp) (by simp) (dj (s:=out) (t:=[38,108,116,59]) ha (by simp;omega)) (by simp) fun _ _=>?_
    simp(disch:=omega) [-zAa];exact fin _ [38,108,116,59] (by simp) (by omega) hbl hi.out
   ·rw[if_neg c2]at heb
    by_cases c3:x.toNat=62
    ·rw[if_pos c3]at heb
     subst heb;simp(disch:=omega) [-zAa,c3];refine ah [] 1 [0] (by simp) (by simp) (by simp) (by simp) (dj (s:=out) (t:=[38,103,116,59]) ha (by simp;omega)) (by simp) fun _ _=>?_
     simp(disch:=omega) [-zAa];exact fin _ [38,103,116,59] (by simp) (by omega) hbl hi.out
    ·rw[if_neg c3]at heb
     by_cases c4:x.toNat=34/\v=true
     ·rw[if_pos c4]at heb
      subst heb;obtain⟨c4,rfl⟩:=c4;simp(disch:=omega) [-zAa,c4];refine ah [] 1 [0] (by simp) (by simp) (by simp) (by simp) (dj (s:=out) (t:=[38,113,117,111,116,59]) ha (by simp;omega)) (by simp) fun _ _=>?_
      simp(disch:=omega) [-zAa];exact fin _ [38,113,117,111,116,59] (by simp) (by omega) hbl hi.out
     ·rw[if_neg c4]at heb
      subst heb;simp(disch:=omega) [-zAa,c1,c2,c3];have hwb:=oI (a:=a) (s:=out) x ha (by omega)
      refine BrKd.mk (fun h5=>?_) (fun h5=>?_)
      ·have hv:v=false:=by cases v<;>simp_all
       subst hv;simp(disch:=omega) [-zAa,h5];refine ah [] 1 [0] (by simp) (by simp) (by simp[bV,h5]) (by simp) hwb (by simp) fun _ _=>?_
       simp(disch:=omega) [-zAa];exact fin _ [x] (by simp) (by omega) hbl hi.out
      ·simp(disch:=omega) [-zAa,h5]
       refine ah [] 1 [0] (by simp) (by simp) (by simp[bV]) (by simp) hwb (by simp) fun _ _=>?_
       simp(disch:=omega) [-zAa];exact fin _ [x] (by simp) (by omega) hbl hi.out
end Go.Abs.F
end
