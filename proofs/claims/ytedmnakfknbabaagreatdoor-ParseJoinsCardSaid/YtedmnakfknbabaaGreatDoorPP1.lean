/- Plain: the texts that are right: the document's an. -/
import Derived.Test.YtedmnakfknbabaaGreatDoorPF1
import Derived.Lib.MapLaws
import Derived.Lib.TrimUEq
import Derived.Lib.ValidU
import Derived.Test.YtedmnakfknbabaaGreatDoorPB0
set_option linter.all false
set_option maxHeartbeats 0
set_option maxRecDepth 100000
open List renaming reduceReplicate→zAa,length_cons→zAb,getD_cons_zero→zAc,getD_cons_succ→zAd,map_cons→zAe,length_drop→zAf,map_nil→zAg,eq_nil_of_length_eq_zero→zAh,take_succ_cons→zAi,cons_append→zAj,take_zero→zBa,take_append_drop→zBb,drop→zBe,map→zBg
open Nat renaming pow_le_pow_right→zBc,reduceSub→zBd,le_refl→zBf
section
namespace Go.Abs.F
open Go.Proofs
theorem eJ(c:UInt8):follows c=true↔c.toNat/64=2:=by
 have:=c.toNat_lt;simp[follows];omega
theorem fS{c:UInt8}(h:¬c.toNat/64=2):follows c=false:=by
 cases h':follows c with
 |false=>rfl
 |true=>exact(h ((eJ c).1 h')).elim
theorem dN2{n b0 b1 b2 b3:Nat}(h:192<=b0/\b0<224)(hn:1<n)(h1:b1/64=2):Lib.decodeN n b0 b1 b2 b3=if b0%32*64+b1%64 ≥ 128 then(b0%32*64+b1%64,2)else(65533,1):=by
 unfold Lib.decodeN;rw[if_neg (show ¬b0<128 by omega),if_pos (show b0/32=6/\(1<n/\b1/64=2)from⟨by omega,hn,h1⟩)]
theorem dN2n{n b0 b1 b2 b3:Nat}(h:192<=b0/\b0<224)(hn:¬(1<n/\b1/64=2)):Lib.decodeN n b0 b1 b2 b3=(65533,1):=by
 unfold Lib.decodeN;rw[if_neg (show ¬b0<128 by omega),if_neg (show ¬(b0/32=6/\(1<n/\b1/64=2))from fun h=>hn h.2),if_neg (by omega),if_neg (by omega)]
theorem dN3{n b0 b1 b2 b3:Nat}(h:224<=b0/\b0<240)(hn:2<n)(h1:b1/64=2)(h2:b2/64=2):Lib.decodeN n b0 b1 b2 b3=if b0%16*4096+b1%64*64+b2%64 ≥ 2048/\(b0%16*4096+b1%64*64+b2%64<55296\/(57344<=b0%16*4096+b1%64*64+b2%64/\b0%16*4096+b1%64*64+b2%64<=1114111))then(b0%16*4096+b1%64*64+b2%64,3)else(65533,1):=by
 unfold Lib.decodeN;rw[if_neg (show ¬b0<128 by omega),if_neg (show ¬(b0/32=6/\(1<n/\b1/64=2)) by omega),if_pos (show b0/16=14/\(1<n/\b1/64=2)/\(2<n/\b2/64=2)from⟨by omega,⟨by omega,h1⟩,hn,h2⟩)]
theorem SF{n b0 b1 b2 b3:Nat}(h:224<=b0/\b0<240)(hn:¬(2<n/\b1/64=2/\b2/64=2)):Lib.decodeN n b0 b1 b2 b3=(65533,1):=by
 unfold Lib.decodeN;rw[if_neg (show ¬b0<128 by omega),if_neg (show ¬(b0/32=6/\(1<n/\b1/64=2)) by omega),if_neg (show ¬(b0/16=14/\(1<n/\b1/64=2)/\(2<n/\b2/64=2))from fun h=>hn ⟨h.2.2.1,h.2.1.2,h.2.2.2⟩),if_neg (by omega)]
theorem dN4{n b0 b1 b2 b3:Nat}(h:240<=b0/\b0<248)(hn:3<n)(h1:b1/64=2)(h2:b2/64=2)(h3:b3/64=2):Lib.decodeN n b0 b1 b2 b3=if b0%8*262144+b1%64*4096+b2%64*64+b3%64 ≥ 65536/\(b0%8*262144+b1%64*4096+b2%64*64+b3%64<55296\/(57344<=b0%8*262144+b1%64*4096+b2%64*64+b3%64/\b0%8*262144+b1%64*4096+b2%64*64+b3%64<=1114111))then(b0%8*262144+b1%64*4096+b2%64*64+b3%64,4)else(65533,1):=by
 unfold Lib.decodeN
 rw[if_neg (show ¬b0<128 by omega),if_neg (show ¬(b0/32=6/\(1<n/\b1/64=2)) by omega),if_neg (show ¬(b0/16=14/\(1<n/\b1/64=2)/\(2<n/\b2/64=2)) by omega),
  if_pos (show b0/8=30/\(1<n/\b1/64=2)/\(2<n/\b2/64=2)/\(3<n/\b3/64=2)from⟨by omega,⟨by omega,h1⟩,⟨by omega,h2⟩,hn,h3⟩)]
theorem ME{n b0 b1 b2 b3:Nat}(h:240<=b0/\b0<248)(hn:¬(3<n/\b1/64=2/\b2/64=2/\b3/64=2)):Lib.decodeN n b0 b1 b2 b3=(65533,1):=by
 unfold Lib.decodeN
 rw[if_neg (show ¬b0<128 by omega),if_neg (show ¬(b0/32=6/\(1<n/\b1/64=2)) by omega),if_neg (show ¬(b0/16=14/\(1<n/\b1/64=2)/\(2<n/\b2/64=2)) by omega),
  if_neg (show ¬(b0/8=30/\(1<n/\b1/64=2)/\(2<n/\b2/64=2)/\(3<n/\b3/64=2))from fun h=>hn ⟨h.2.2.2.1,h.2.1.2,h.2.2.1.2,h.2.2.2.2⟩)]
theorem dN0{n b0 b1 b2 b3:Nat}(h:128<=b0)(h2:¬(192<=b0/\b0<224))(h3:¬(224<=b0/\b0<240))(h4:¬(240<=b0/\b0<248)):Lib.decodeN n b0 b1 b2 b3=(65533,1):=by
 unfold Lib.decodeN;rw[if_neg (show ¬b0<128 by omega),if_neg (by omega),if_neg (by omega),if_neg (by omega)]
theorem xf(b:UInt8)(t:Str):one (b::t)=Lib.decodeL (b::t):=by
 have hb:=b.toNat_lt;rw[Lib.decodeL_N];simp only[one,zAc,zAd,zAb];by_cases h1:b.toNat<128
 ·simp[Lib.decodeN,h1]
 rw[if_neg h1];by_cases h2:192<=b.toNat/\b.toNat<224
 ·have e:hdr b.toNat=(2,b.toNat-192,128):=by simp[hdr,h2]
  rw[e];cases t with
  |nil=>rw[dN2n h2 (by simp)];simp
  |cons c u=>
    have hc:=c.toNat_lt;simp only[zAc,zAd,zAb,zAi,zBa,goV,zBd];rw[if_neg (show ¬(2=0\/u.length+1+1<2) by omega)]
    by_cases f1:c.toNat/64=2
    ·rw[if_pos ((eJ c).2 f1),dN2 h2 (by omega) f1]
     have ev:64*(b.toNat-192)+c.toNat-128=b.toNat%32*64+c.toNat%64:=by omega
     rw[ev];simp only[oa]
     repeat' split
     all_goals first|rfl|omega
    ·rw[fS f1,dN2n h2 (by omega)]
     rfl
 by_cases h3:224<=b.toNat/\b.toNat<240
 ·have e:hdr b.toNat=(3,b.toNat-224,2048):=by unfold hdr;rw[if_neg h2,if_pos h3]
  rw[e]
  match t with
  |[]=>rw[SF h3 (by simp)];simp
  |[c]=>rw[SF h3 (by simp)];simp
  |c::d::u=>
    have hc:=c.toNat_lt;have hd:=d.toNat_lt;simp only[zAc,zAd,zAb,zAi,zBa,goV,zBd];rw[if_neg (show ¬(3=0\/u.length+1+1+1<3) by omega)]
    by_cases f1:c.toNat/64=2
    ·rw[if_pos ((eJ c).2 f1)]
     by_cases f2:d.toNat/64=2
     ·rw[if_pos ((eJ d).2 f2),dN3 h3 (by omega) f1 f2]
      have ev:64*(64*(b.toNat-224)+c.toNat-128)+d.toNat-128=b.toNat%16*4096+c.toNat%64*64+d.toNat%64:=by omega
      rw[ev];simp only[oa]
      repeat' split
      all_goals first|rfl|omega
     ·rw[fS f2,SF h3 (by omega)]
      rfl
    ·rw[fS f1,SF h3 (by omega)]
     rfl
 by_cases h4:240<=b.toNat/\b.toNat<248
 ·have e:hdr b.toNat=(4,b.toNat-240,65536):=by unfold hdr;rw[if_neg h2,if_neg h3,if_pos h4]
  rw[e]
  match t with
  |[]=>rw[ME h4 (by simp)];simp
  |[c]=>rw[ME h4 (by simp)];simp
  |[c,d]=>rw[ME h4 (by simp)];simp
  |c::d::k::u=>
    have hc:=c.toNat_lt;have hd:=d.toNat_lt;have hk:=k.toNat_lt;simp only[zAc,zAd,zAb,zAi,zBa,goV,zBd];rw[if_neg (show ¬(4=0\/u.length+1+1+1+1<4) by omega)]
    by_cases f1:c.toNat/64=2
    ·rw[if_pos ((eJ c).2 f1)]
     by_cases f2:d.toNat/64=2
     ·rw[if_pos ((eJ d).2 f2)]
      by_cases f3:k.toNat/64=2
      ·rw[if_pos ((eJ k).2 f3),dN4 h4 (by omega) f1 f2 f3]
       have ev:64*(64*(64*(b.toNat-240)+c.toNat-128)+d.toNat-128)+k.toNat-128=b.toNat%8*262144+c.toNat%64*4096+d.toNat%64*64+k.toNat%64:=by omega
       rw[ev];simp only[oa]
       repeat' split
       all_goals first|rfl|omega
      ·rw[fS f3,ME h4 (by omega)]
       rfl
     ·rw[fS f2,ME h4 (by omega)]
      rfl
    ·rw[fS f1,ME h4 (by omega)]
     rfl
 have e:hdr b.toNat=(0,0,0):=by unfold hdr;rw[if_neg h2,if_neg h3,if_neg h4]
 rw[e,if_pos (.inl rfl),dN0 (by omega) h2 h3 h4]
theorem JE(r:Nat):aw r=Lib.encodeRune (r:Int):=by
 have g:∀(n:Nat)(z:Int),z=(n:Int)->z.toNat.toUInt8=b8 n:=by
  intro n z h;subst h;rfl
 unfold aw Lib.encodeRune Lib.encodeRuneZ;simp only;by_cases h0:1114111<r\/(55296<=r/\r<=57343)
 ·rw[if_pos h0,if_neg (show ¬(0<=(r:Int)/\(r:Int)<=127) by omega),if_neg (show ¬(128<=(r:Int)/\(r:Int)<=2047) by omega),
   if_neg (show ¬((2048<=(r:Int)/\(r:Int)<55296)\/(57343<(r:Int)/\(r:Int)<=65535)) by omega),if_neg (show ¬(65536<=(r:Int)/\(r:Int)<=1114111) by omega)]
  decide
 ·rw[if_neg h0]
  by_cases h1:r<128
  ·rw[if_pos h1,if_pos (by omega)]
   simp only[zAe,zAg];rw[g r _ rfl]
  ·rw[if_neg h1,if_neg (by omega:¬(0<=(r:Int)/\(r:Int)<=127))]
   by_cases h2:r<2048
   ·rw[if_pos h2,if_pos (by omega)]
    simp only[zAe,zAg];rw[g (192+r/64) _ (by omega),g (128+r%64) _ (by omega)]
   ·rw[if_neg h2,if_neg (by omega:¬(128<=(r:Int)/\(r:Int)<=2047))]
    by_cases h3:r<65536
    ·rw[if_pos h3,if_pos (by omega)]
     simp only[zAe,zAg];rw[g (224+r/4096) _ (by omega),g (128+r/64%64) _ (by omega),g (128+r%64) _ (by omega)]
    ·rw[if_neg h3,if_neg (by omega),if_pos (by omega)]
     simp only[zAe,zAg];rw[g (240+r/262144) _ (by omega),g (128+r/4096%64) _ (by omega),g (128+r/64%64) _ (by omega),g (128+r%64) _ (by omega)]
theorem eQ:∀n,Lib.validGoD n []=true
 |0=>rfl
 |_+1=>by simp[Lib.validGoD]
theorem p9:∀(n m:Nat)(l:Str),l.length<=n->l.length<=m->Lib.validGoD n l=Lib.validGoD m l
 |0,m,l,hn,_=>by
   have:l=[]:=zAh (by omega)
   subst this;rw[eQ,eQ]
 |n+1,0,l,_,hm=>by
   have:l=[]:=zAh (by omega)
   subst this;rw[eQ,eQ]
 |n+1,m+1,l,hn,hm=>by
   by_cases hne:l=[]
   ·subst hne
    rw[eQ,eQ]
   ·have hw:=Lib.decodeL_width l
    have hl:0<l.length:=List.length_pos_iff.2 hne;simp only[Lib.validGoD,if_neg hne];rw[p9 n m _ (by rw[zAf];omega) (by rw[zAf];omega)]
theorem EX(b:UInt8)(t:Str):Lib.validD (b::t)=if(one (b::t)).1=65533/\(one (b::t)).2=1 then false else Lib.validD ((b::t).drop (one (b::t)).2):=by
 rw[xf];unfold Lib.validD;simp only[zAb,Lib.validGoD,List.cons_ne_nil,if_false];have hw:=Lib.decodeL_width (b::t);rw[p9 t.length _ _ (by rw[zAf];simp;omega) (zBf _)]
def isU(s:Str):Bool:=Lib.validD s&&(b9 s).all fun r=>!decide (r=0)&& !decide (r=13)
theorem BN{b:UInt8}{t:Str}(h:(one (b::t)).1<128):b.toNat=(one (b::t)).1:=by
 simp only[one]at h⊢;by_cases h1:b.toNat<128
 ·rw[if_pos h1]
 ·rw[if_neg h1]at h
  exfalso;by_cases h2:(hdr b.toNat).1=0\/t.length+1<(hdr b.toNat).1
  ·rw[if_pos h2]at h;simp at h
  ·rw[if_neg h2]at h
   have h3:128<=(hdr b.toNat).2.2:=by
    have h2':¬(hdr b.toNat).1=0:=fun h=>h2 (.inl h);revert h2';unfold hdr
    repeat' split
    all_goals simp
   revert h;unfold oa;split
   ·simp
   ·split
    ·simp
    ·rename_i h4
     simp only;omega
theorem E7:∀(n:Nat)(s:Str)(p:Option Nat),s.length<=n->p≠some 13->(aX (eW p (b9 s))=s↔isU s=true)
 |n,[],p,_,_=>by simp[b9,d8,eW,aX,isU,Lib.validD,Lib.validGoD]
 |0,b::t,p,h,_=>by simp at h
 |n+1,b::t,p,h,hp=>by
   have hor:=cR (b::t);have hlen:=hor.2.2.1 (by simp)
   have hd:((b::t).drop (one (b::t)).2).length<=n:=by rw[zAf];simp at h⊢;omega
   rw[eC];simp only[eW,isU,eC,List.all_cons,EX];rw[if_neg (fun h=>hp h.2)];simp only[aX,List.map_append,zAe,zAg,List.flatten_append,List.flatten_cons,List.flatten_nil,List.append_nil];by_cases h13:(one (b::t)).1=13
   ·have hb:=BN (b:=b) (t:=t) (by omega)
    rw[if_pos h13];have e10:aw 10=[10]:=by decide
    rw[h13]at hb;rw[e10,h13];simp;intro hh;rw[<-hh]at hb;simp at hb
   ·by_cases h00:(one (b::t)).1=0
    ·have hb:=BN (b:=b) (t:=t) (by omega)
     rw[if_neg h13,if_pos h00];have e:aw 65533=[239,191,189]:=by decide
     rw[h00]at hb;rw[e,h00];simp;intro hh;rw[<-hh]at hb;simp at hb
    ·rw[if_neg h13,if_neg h00]
     by_cases hbad:(one (b::t)).1=65533/\(one (b::t)).2=1
     ·rw[if_pos hbad]
      have e:aw 65533=[239,191,189]:=by decide
      rw[hbad.1,e];simp only[Bool.false_and,Bool.false_eq_true,iff_false];intro hh
      have:one (b::t)=(65533,3):=by
       rw[<-hh,zAj,zAj,zAj,one];simp[hdr,goV,follows,oa]
      rw[this]at hbad;simp at hbad
     ·rw[if_neg hbad]
      have hbad':¬((Lib.decodeL (b::t)).1=65533/\(Lib.decodeL (b::t)).2=1):=by rw[<-xf];exact hbad
      have henc:=Lib.encode_decode (b::t) (by simp) hbad'
      rw[<-xf,<-JE]at henc;rw[henc];have ih:=E7 n ((b::t).drop (one (b::t)).2) (some (one (b::t)).1) hd (by simpa using h13)
      simp only[aX,isU]at ih
      have key:(List.take (one (b::t)).2 (b::t)++(zBg aw (eW (some (one (b::t)).1) (b9 (zBe (one (b::t)).2 (b::t))))).flatten=b::t)↔((zBg aw (eW (some (one (b::t)).1) (b9 (zBe (one (b::t)).2 (b::t))))).flatten=zBe (one (b::t)).2 (b::t)):=by
       constructor
       ·intro hh
        have h2:=hh.trans (zBb (one (b::t)).2 (b::t)).symm;exact List.append_cancel_left h2
       ·intro hh
        rw[hh];exact zBb _ _
      rw[key,ih];simp[h13,h00]
theorem Lq(s:Str):right s=isU s:=by
 have:=E7 s.length s none (zBf _) (by simp)
 unfold right bg;rw[Bool.eq_iff_iff,decide_eq_true_iff];exact this
theorem oP(s:Str)(p:Nat)(h:p<s.length):oQ s p=one (s.drop p):=by
 have:oQ s p=Lib.decodeL (s.drop p):=by
  have:=Lib.decodeL_drop ⟨s.toArray⟩ p;simpa[oQ]using this.symm
 rw[this];cases hs:s.drop p with
 |nil=>have:=congrArg List.length hs;simp at this;omega
 |cons b t=>rw[xf]
end Go.Abs.F
end
section
namespace Go.Abs.F
open Go.Proofs Go.RowKit
attribute [-simp] getElem?_pos Option.not_isSome List.map_map
def Ba(base c:Nat):Option Nat:=
 if 48<=c/\c<=57 then some (c-48)else if base=16/\97<=c/\c<=102 then some (c-97+10)else if base=16/\65<=c/\c<=70 then some (c-65+10)else none
def LF:Option Nat->Int
 |some d=>d
 |none=>-1
theorem s7(c base:Nat)(hc:c<=1114111)(hb:base<=16):Fn Tryz.prog C9 [rV c,.int .i64 base] (.int .i64 (LF (Ba base c))):=by
 refine Fn.of_image mixed D2 DG rfl fun ho=>?_;unfold tF;simp only[oks,ok,and_true]at ho;clear ho;generalize hr:LF (Ba base c)=R;unfold Ba at hr;simp(disch:=omega) [-zAa,rV]
 repeat' (first
  |(refine BrKd.mk (fun h=>?_) (fun h=>?_)<;>simp(disch:=omega) [*])
  |(refine BrK.mk (fun h=>?_) (fun h=>?_)<;>simp(disch:=omega) [*]))
 all_goals (subst hr;(repeat' split)<;>simp only[LF]<;>omega)
def vR(n:Nat):Nat:=if n=0\/n=13\/(55296<=n/\n<=57343)\/1114111<n then 65533 else n
theorem uM(n:Nat)(hn:n<=4000000000):Fn Tryz.prog uv [.int .i64 n] (rV (vR n)):=by
 refine Fn.of_image mixed uI uE rfl fun ho=>?_;unfold mq;simp only[oks,ok,and_true]at ho;clear ho;generalize hr:vR n=R;unfold vR at hr;simp(disch:=omega) [-zAa,rV]
 repeat' (first
  |(refine BrKd.mk (fun h=>?_) (fun h=>?_)<;>simp(disch:=omega) [*])
  |(refine BrK.mk (fun h=>?_) (fun h=>?_)<;>simp(disch:=omega) [*]))
 all_goals (revert hr;split<;>intro hr<;>omega)
theorem Iv{b:UInt8}{t:Str}(h:b.toNat<128):one (b::t)=(b.toNat,1):=by simp only[one,if_pos h]
theorem Iw{b:UInt8}{t:Str}(h:128<=b.toNat):128<=(one (b::t)).1:=by
 simp only[one];rw[if_neg (by omega)]
 split
 ·simp
 ·rename_i hn
  have hl:128<=(hdr b.toNat).2.2:=by
   unfold hdr at hn⊢;split
   ·simp
   ·split
    ·simp
    ·split
     ·simp
     ·rename_i h1 h2 h3
      rw[if_neg h1,if_neg h2,if_neg h3]at hn;simp at hn
  unfold oa;split
  ·simp
  ·split
   ·simp
   ·simp only;omega
theorem KE{base c:Nat}(h:128<=c):Ba base c=none:=by
 unfold Ba;rw[if_neg (by omega),if_neg (by omega),if_neg (by omega)]
theorem SC{base c d:Nat}(hb:base=10\/base=16)(h:Ba base c=some d):d<base:=by
 unfold Ba at h
 (repeat' split at h)<;>simp at h<;>omega
def lH(base most:Nat):Str->Nat->Nat->Option (Nat×Nat)
 |[],_,_=>none
 |b::t,n,d=>if b.toNat=59 then(if d=0 then none else some (n,1))else match Ba base b.toNat with
   |none=>none
   |some x=>if d=most then none else(lH base most t (n*base+x) (d+1)).map fun p=>(p.1,p.2+1)
def kN(at':Nat):Option (Nat×Nat)->Nat×Nat
 |none=>(0,0)
 |some p=>(vR p.1,at'+p.2)
theorem Oz{k:Nat}{o:Option (Nat×Nat)}:kN k (o.map fun p=>(p.1,p.2+1))=kN (k+1) o:=by
 cases o with
 |none=>rfl
 |some p=>simp only[Option.map_some,kN];congr 1;omega
theorem LB{n base d x:Nat}(hn:n<16^d)(hb:base<=16)(hx:x<base):n*base+x<16^(d+1):=by
 have h1:n*base<=n*16:=Nat.mul_le_mul_left n hb;have h2:(n+1)*16<=16^d*16:=Nat.mul_le_mul_right 16 hn;rw[Nat.pow_succ];omega
theorem qn(s:Str)(from' base most:Nat)(hs:s.length<=1000000000)(hf:from'<=s.length)(hb:base=10\/base=16)(hm:most<=7):
 Fn Tryz.prog zO [.str s,.int .i64 from',.int .i64 base,.int .i64 most] (.tup [rV (kN from' (lH base most (s.drop from') 0 0)).1,.int .i64 (kN from' (lH base most (s.drop from') 0 0)).2]):=by
 refine Fn.of_image mixed AE Aj rfl fun ho=>?_;unfold qx;simp only[oks,ok,and_true]at ho;clear ho;simp(disch:=omega) [-zAa];have htl:(s.drop from').length=s.length-from':=by simp
 generalize s.drop from'=t at *;have htk:t.take (s.length-from')=t:=List.take_of_length_le (by omega)
 generalize hR:kN from' (lH base most t 0 0)=R
 refine ay (fun(q:Nat×Nat×Nat)=>⟨[(1,.int .i64 from'),(2,.int .i64 base),(3,.int .i64 most),(10,.int .i64 q.2.1),(11,.int .i64 q.2.2),(18,.ref 0 0)],[some (.itr t q.1)]⟩)
  (fun q=>q.1<=t.length/\q.2.2<=most/\q.2.1<16^q.2.2/\kN (from'+q.1) (lH base most (t.drop q.1) q.2.1 q.2.2)=R) (fun q=>t.length-q.1) [] _ (0,0,0) rfl (by simp[htk]) (by simp[hR]) ?_
 rintro⟨k,n,d⟩ ⟨hk,hd7,hn,hi⟩ N hN;simp only at hk hd7 hn hi;have h16:16^d<=16^7:=zBc (by decide) (by omega)
 have h167:(16:Nat)^7=268435456:=by decide
 rcases place t k hk with⟨he,hd⟩|⟨hlt,b,hx,hd⟩
 ·rw[hd]at hi
  subst hi;simp(disch:=omega) [-zAa,he,lH,kN]
 ·have hdo:=oP t k hlt
  rw[hd]at hdo hi;by_cases hlo:b.toNat<128
  ·rw[Iv hlo]at hdo
   simp only[lH]at hi;replace hi:=hid hi;simp(disch:=omega) [-zAa,hlt,hdo];refine BrK.mk (fun h=>?_) (fun h=>?_)
   ·simp only[decide_eq_true_eq]at h
    have hi:=hi.out;rw[if_pos h]at hi;simp(disch:=omega) [-zAa];refine BrKd.mk (fun h0=>?_) (fun h0=>?_)
    ·rw[if_pos (by omega)]at hi
     simp only[kN]at hi;subst hi;simp(disch:=omega) [-zAa,h0]
    ·rw[if_neg (by omega)]at hi
     simp only[kN]at hi;subst hi;simp(disch:=omega) [-zAa,h0];refine ac (uM n (by omega)) rfl fun _=>?_
     simp(disch:=omega) [-zAa,rV]
   ·simp only[decide_eq_false_iff_not]at h
    have hi:=hi.out;rw[if_neg h]at hi;simp(disch:=omega) [-zAa];refine ac (s7 b.toNat base (by omega) (by omega)) rfl fun _=>?_
    cases hdg:Ba base b.toNat with
    |none=>
      rw[hdg]at hi;simp only[kN]at hi;subst hi;simp(disch:=omega) [-zAa,hdg,LF]
    |some x=>
      rw[hdg]at hi;simp only at hi;have hx16:=SC hb hdg;simp(disch:=omega) [-zAa,hdg,LF];refine BrKd.mk (fun h0=>?_) (fun h0=>?_)
      ·rw[if_pos (by omega)]at hi
       simp only[kN]at hi;subst hi;simp(disch:=omega) [-zAa,h0]
      ·rw[if_neg (by omega),Oz]at hi
       have hpb:=LB hn (show base<=16 by omega) hx16
       have h17:16^(d+1)<=16^7:=zBc (by decide) (by omega)
       have hnb:n*base<=268435456:=by omega
       have hcast:(n:Int)*(base:Int)=((n*base:Nat):Int):=by simp
       generalize n*base=nb at *;simp(disch:=omega) [-zAa,h0,hcast];exact hN.out _<|Nx.mk (k+1,nb+x,d+1) (by simp) ⟨by simp only;omega,by simp only;omega,hpb,by simpa[Nat.add_assoc]using hi⟩ (by simp only;omega)
  ·have h1:=Iw (b:=b) (t:=t.drop (k+1)) (by omega)
   have h2:=cR (b::t.drop (k+1));obtain⟨c,m,hcm⟩:∃c m,one (b::t.drop (k+1))=(c,m):=⟨_,_,rfl⟩;rw[hcm]at h1 h2 hdo;simp only at h1 h2;have hdg:LF (Ba base c)=-1:=by rw[KE h1];rfl
   simp only[lH,KE (show 128<=b.toNat by omega),if_neg (show ¬b.toNat=59 by omega),kN]at hi
   subst hi;simp(disch:=omega) [-zAa,hlt,hdo,show ¬c=59 by omega]
   refine ac (s7 c base (by omega) (by omega)) rfl fun _=>?_
   simp(disch:=omega) [-zAa,hdg]
end Go.Abs.F
end
