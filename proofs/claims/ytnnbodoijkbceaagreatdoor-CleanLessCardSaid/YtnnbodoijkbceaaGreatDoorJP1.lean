/- Plain: the texts that are right: the document's answer and the program's. No condition. -/
import Derived.Test.YtnnbodoijkbceaaGreatDoorJF1
import Derived.Lib.MapLaws
import Derived.Lib.TrimUEq
import Derived.Lib.ValidU
set_option linter.all false
set_option maxHeartbeats 0
set_option maxRecDepth 100000
open List renaming length_cons→zAa,getD_cons_zero→zAb,getD_cons_succ→zAc,map_cons→zAd,length_drop→zAe,map_nil→zAf,eq_nil_of_length_eq_zero→zAg,take_succ_cons→zAh,cons_append→zAi,take_zero→zAj,take_append_drop→zBa,drop→zBc,map→zBe
open Nat renaming reduceSub→zBb,le_refl→zBd
section
namespace Go.Abs.F
open Go.Proofs
theorem d9(c:UInt8):follows c=true↔c.toNat/64=2:=by
 have:=c.toNat_lt;simp[follows];omega
theorem fo{c:UInt8}(h:¬c.toNat/64=2):follows c=false:=by
 cases h':follows c with
 |false=>rfl
 |true=>exact(h ((d9 c).1 h')).elim
theorem dN2{n b0 b1 b2 b3:Nat}(h:192<=b0/\b0<224)(hn:1<n)(h1:b1/64=2):Lib.decodeN n b0 b1 b2 b3=if b0%32*64+b1%64 ≥ 128 then(b0%32*64+b1%64,2)else(65533,1):=by
 unfold Lib.decodeN;rw[if_neg (show ¬b0<128 by omega),if_pos (show b0/32=6/\(1<n/\b1/64=2)from⟨by omega,hn,h1⟩)]
theorem dN2n{n b0 b1 b2 b3:Nat}(h:192<=b0/\b0<224)(hn:¬(1<n/\b1/64=2)):Lib.decodeN n b0 b1 b2 b3=(65533,1):=by
 unfold Lib.decodeN;rw[if_neg (show ¬b0<128 by omega),if_neg (show ¬(b0/32=6/\(1<n/\b1/64=2))from fun h=>hn h.2),if_neg (by omega),if_neg (by omega)]
theorem dN3{n b0 b1 b2 b3:Nat}(h:224<=b0/\b0<240)(hn:2<n)(h1:b1/64=2)(h2:b2/64=2):Lib.decodeN n b0 b1 b2 b3=if b0%16*4096+b1%64*64+b2%64 ≥ 2048/\(b0%16*4096+b1%64*64+b2%64<55296\/(57344<=b0%16*4096+b1%64*64+b2%64/\b0%16*4096+b1%64*64+b2%64<=1114111))then(b0%16*4096+b1%64*64+b2%64,3)else(65533,1):=by
 unfold Lib.decodeN;rw[if_neg (show ¬b0<128 by omega),if_neg (show ¬(b0/32=6/\(1<n/\b1/64=2)) by omega),if_pos (show b0/16=14/\(1<n/\b1/64=2)/\(2<n/\b2/64=2)from⟨by omega,⟨by omega,h1⟩,hn,h2⟩)]
theorem VI{n b0 b1 b2 b3:Nat}(h:224<=b0/\b0<240)(hn:¬(2<n/\b1/64=2/\b2/64=2)):Lib.decodeN n b0 b1 b2 b3=(65533,1):=by
 unfold Lib.decodeN;rw[if_neg (show ¬b0<128 by omega),if_neg (show ¬(b0/32=6/\(1<n/\b1/64=2)) by omega),if_neg (show ¬(b0/16=14/\(1<n/\b1/64=2)/\(2<n/\b2/64=2))from fun h=>hn ⟨h.2.2.1,h.2.1.2,h.2.2.2⟩),if_neg (by omega)]
theorem dN4{n b0 b1 b2 b3:Nat}(h:240<=b0/\b0<248)(hn:3<n)(h1:b1/64=2)(h2:b2/64=2)(h3:b3/64=2):Lib.decodeN n b0 b1 b2 b3=if b0%8*262144+b1%64*4096+b2%64*64+b3%64 ≥ 65536/\(b0%8*262144+b1%64*4096+b2%64*64+b3%64<55296\/(57344<=b0%8*262144+b1%64*4096+b2%64*64+b3%64/\b0%8*262144+b1%64*4096+b2%64*64+b3%64<=1114111))then(b0%8*262144+b1%64*4096+b2%64*64+b3%64,4)else(65533,1):=by
 unfold Lib.decodeN
 rw[if_neg (show ¬b0<128 by omega),if_neg (show ¬(b0/32=6/\(1<n/\b1/64=2)) by omega),if_neg (show ¬(b0/16=14/\(1<n/\b1/64=2)/\(2<n/\b2/64=2)) by omega),
  if_pos (show b0/8=30/\(1<n/\b1/64=2)/\(2<n/\b2/64=2)/\(3<n/\b3/64=2)from⟨by omega,⟨by omega,h1⟩,⟨by omega,h2⟩,hn,h3⟩)]
theorem Pt{n b0 b1 b2 b3:Nat}(h:240<=b0/\b0<248)(hn:¬(3<n/\b1/64=2/\b2/64=2/\b3/64=2)):Lib.decodeN n b0 b1 b2 b3=(65533,1):=by
 unfold Lib.decodeN
 rw[if_neg (show ¬b0<128 by omega),if_neg (show ¬(b0/32=6/\(1<n/\b1/64=2)) by omega),if_neg (show ¬(b0/16=14/\(1<n/\b1/64=2)/\(2<n/\b2/64=2)) by omega),
  if_neg (show ¬(b0/8=30/\(1<n/\b1/64=2)/\(2<n/\b2/64=2)/\(3<n/\b3/64=2))from fun h=>hn ⟨h.2.2.2.1,h.2.1.2,h.2.2.1.2,h.2.2.2.2⟩)]
theorem dN0{n b0 b1 b2 b3:Nat}(h:128<=b0)(h2:¬(192<=b0/\b0<224))(h3:¬(224<=b0/\b0<240))(h4:¬(240<=b0/\b0<248)):Lib.decodeN n b0 b1 b2 b3=(65533,1):=by
 unfold Lib.decodeN;rw[if_neg (show ¬b0<128 by omega),if_neg (by omega),if_neg (by omega),if_neg (by omega)]
theorem yh(b:UInt8)(t:Str):one (b::t)=Lib.decodeL (b::t):=by
 have hb:=b.toNat_lt;rw[Lib.decodeL_N];simp only[one,zAb,zAc,zAa];by_cases h1:b.toNat<128
 ·simp[Lib.decodeN,h1]
 rw[if_neg h1];by_cases h2:192<=b.toNat/\b.toNat<224
 ·have e:hdr b.toNat=(2,b.toNat-192,128):=by simp[hdr,h2]
  rw[e];cases t with
  |nil=>rw[dN2n h2 (by simp)];simp
  |cons c u=>
    have hc:=c.toNat_lt;simp only[zAb,zAc,zAa,zAh,zAj,goV,zBb];rw[if_neg (show ¬(2=0\/u.length+1+1<2) by omega)]
    by_cases f1:c.toNat/64=2
    ·rw[if_pos ((d9 c).2 f1),dN2 h2 (by omega) f1]
     have ev:64*(b.toNat-192)+c.toNat-128=b.toNat%32*64+c.toNat%64:=by omega
     rw[ev];simp only[yW]
     repeat' split
     all_goals first|rfl|omega
    ·rw[fo f1,dN2n h2 (by omega)]
     rfl
 by_cases h3:224<=b.toNat/\b.toNat<240
 ·have e:hdr b.toNat=(3,b.toNat-224,2048):=by unfold hdr;rw[if_neg h2,if_pos h3]
  rw[e]
  match t with
  |[]=>rw[VI h3 (by simp)];simp
  |[c]=>rw[VI h3 (by simp)];simp
  |c::d::u=>
    have hc:=c.toNat_lt;have hd:=d.toNat_lt;simp only[zAb,zAc,zAa,zAh,zAj,goV,zBb];rw[if_neg (show ¬(3=0\/u.length+1+1+1<3) by omega)]
    by_cases f1:c.toNat/64=2
    ·rw[if_pos ((d9 c).2 f1)]
     by_cases f2:d.toNat/64=2
     ·rw[if_pos ((d9 d).2 f2),dN3 h3 (by omega) f1 f2]
      have ev:64*(64*(b.toNat-224)+c.toNat-128)+d.toNat-128=b.toNat%16*4096+c.toNat%64*64+d.toNat%64:=by omega
      rw[ev];simp only[yW]
      repeat' split
      all_goals first|rfl|omega
     ·rw[fo f2,VI h3 (by omega)]
      rfl
    ·rw[fo f1,VI h3 (by omega)]
     rfl
 by_cases h4:240<=b.toNat/\b.toNat<248
 ·have e:hdr b.toNat=(4,b.toNat-240,65536):=by unfold hdr;rw[if_neg h2,if_neg h3,if_pos h4]
  rw[e]
  match t with
  |[]=>rw[Pt h4 (by simp)];simp
  |[c]=>rw[Pt h4 (by simp)];simp
  |[c,d]=>rw[Pt h4 (by simp)];simp
  |c::d::k::u=>
    have hc:=c.toNat_lt;have hd:=d.toNat_lt;have hk:=k.toNat_lt;simp only[zAb,zAc,zAa,zAh,zAj,goV,zBb];rw[if_neg (show ¬(4=0\/u.length+1+1+1+1<4) by omega)]
    by_cases f1:c.toNat/64=2
    ·rw[if_pos ((d9 c).2 f1)]
     by_cases f2:d.toNat/64=2
     ·rw[if_pos ((d9 d).2 f2)]
      by_cases f3:k.toNat/64=2
      ·rw[if_pos ((d9 k).2 f3),dN4 h4 (by omega) f1 f2 f3]
       have ev:64*(64*(64*(b.toNat-240)+c.toNat-128)+d.toNat-128)+k.toNat-128=b.toNat%8*262144+c.toNat%64*4096+d.toNat%64*64+k.toNat%64:=by omega
       rw[ev];simp only[yW]
       repeat' split
       all_goals first|rfl|omega
      ·rw[fo f3,Pt h4 (by omega)]
       rfl
     ·rw[fo f2,Pt h4 (by omega)]
      rfl
    ·rw[fo f1,Pt h4 (by omega)]
     rfl
 have e:hdr b.toNat=(0,0,0):=by unfold hdr;rw[if_neg h2,if_neg h3,if_neg h4]
 rw[e,if_pos (.inl rfl),dN0 (by omega) h2 h3 h4]
theorem Ms(r:Nat):ge r=Lib.encodeRune (r:Int):=by
 have g:∀(n:Nat)(z:Int),z=(n:Int)->z.toNat.toUInt8=b8 n:=by
  intro n z h;subst h;rfl
 unfold ge Lib.encodeRune Lib.encodeRuneZ;simp only;by_cases h0:1114111<r\/(55296<=r/\r<=57343)
 ·rw[if_pos h0,if_neg (show ¬(0<=(r:Int)/\(r:Int)<=127) by omega),if_neg (show ¬(128<=(r:Int)/\(r:Int)<=2047) by omega),
   if_neg (show ¬((2048<=(r:Int)/\(r:Int)<55296)\/(57343<(r:Int)/\(r:Int)<=65535)) by omega),if_neg (show ¬(65536<=(r:Int)/\(r:Int)<=1114111) by omega)]
  decide
 ·rw[if_neg h0]
  by_cases h1:r<128
  ·rw[if_pos h1,if_pos (by omega)]
   simp only[zAd,zAf];rw[g r _ rfl]
  ·rw[if_neg h1,if_neg (by omega:¬(0<=(r:Int)/\(r:Int)<=127))]
   by_cases h2:r<2048
   ·rw[if_pos h2,if_pos (by omega)]
    simp only[zAd,zAf];rw[g (192+r/64) _ (by omega),g (128+r%64) _ (by omega)]
   ·rw[if_neg h2,if_neg (by omega:¬(128<=(r:Int)/\(r:Int)<=2047))]
    by_cases h3:r<65536
    ·rw[if_pos h3,if_pos (by omega)]
     simp only[zAd,zAf];rw[g (224+r/4096) _ (by omega),g (128+r/64%64) _ (by omega),g (128+r%64) _ (by omega)]
    ·rw[if_neg h3,if_neg (by omega),if_pos (by omega)]
     simp only[zAd,zAf];rw[g (240+r/262144) _ (by omega),g (128+r/4096%64) _ (by omega),g (128+r/64%64) _ (by omega),g (128+r%64) _ (by omega)]
theorem et:∀n,Lib.validGoD n []=true
 |0=>rfl
 |_+1=>by simp[Lib.validGoD]
theorem rb:∀(n m:Nat)(l:Str),l.length<=n->l.length<=m->Lib.validGoD n l=Lib.validGoD m l
 |0,m,l,hn,_=>by
   have:l=[]:=zAg (by omega)
   subst this;rw[et,et]
 |n+1,0,l,_,hm=>by
   have:l=[]:=zAg (by omega)
   subst this;rw[et,et]
 |n+1,m+1,l,hn,hm=>by
   by_cases hne:l=[]
   ·subst hne
    rw[et,et]
   ·have hw:=Lib.decodeL_width l
    have hl:0<l.length:=List.length_pos_iff.2 hne;simp only[Lib.validGoD,if_neg hne];rw[rb n m _ (by rw[zAe];omega) (by rw[zAe];omega)]
theorem Hr(b:UInt8)(t:Str):Lib.validD (b::t)=if(one (b::t)).1=65533/\(one (b::t)).2=1 then false else Lib.validD ((b::t).drop (one (b::t)).2):=by
 rw[yh];unfold Lib.validD;simp only[zAa,Lib.validGoD,List.cons_ne_nil,if_false];have hw:=Lib.decodeL_width (b::t);rw[rb t.length _ _ (by rw[zAe];simp;omega) (zBd _)]
def isU(s:Str):Bool:=Lib.validD s&&(dy s).all fun r=>!decide (r=0)&& !decide (r=13)
theorem DV{b:UInt8}{t:Str}(h:(one (b::t)).1<128):b.toNat=(one (b::t)).1:=by
 simp only[one]at h⊢;by_cases h1:b.toNat<128
 ·rw[if_pos h1]
 ·rw[if_neg h1]at h
  exfalso;by_cases h2:(hdr b.toNat).1=0\/t.length+1<(hdr b.toNat).1
  ·rw[if_pos h2]at h;simp at h
  ·rw[if_neg h2]at h
   have h3:128<=(hdr b.toNat).2.2:=by
    have h2':¬(hdr b.toNat).1=0:=fun h=>h2 (.inl h);revert h2';unfold hdr
    repeat' split
    all_goals simp
   revert h;unfold yW;split
   ·simp
   ·split
    ·simp
    ·rename_i h4
     simp only;omega
theorem HB:∀(n:Nat)(s:Str)(p:Option Nat),s.length<=n->p≠some 13->(kC (lm p (dy s))=s↔isU s=true)
 |n,[],p,_,_=>by simp[dy,gz,lm,kC,isU,Lib.validD,Lib.validGoD]
 |0,b::t,p,h,_=>by simp at h
 |n+1,b::t,p,h,hp=>by
   have hor:=gB (b::t);have hlen:=hor.2.2.1 (by simp)
   have hd:((b::t).drop (one (b::t)).2).length<=n:=by rw[zAe];simp at h⊢;omega
   rw[gy];simp only[lm,isU,gy,List.all_cons,Hr];rw[if_neg (fun h=>hp h.2)];simp only[kC,List.map_append,zAd,zAf,List.flatten_append,List.flatten_cons,List.flatten_nil,List.append_nil];by_cases h13:(one (b::t)).1=13
   ·have hb:=DV (b:=b) (t:=t) (by omega)
    rw[if_pos h13];have e10:ge 10=[10]:=by decide
    rw[h13]at hb;rw[e10,h13];simp;intro hh;rw[<-hh]at hb;simp at hb
   ·by_cases h00:(one (b::t)).1=0
    ·have hb:=DV (b:=b) (t:=t) (by omega)
     rw[if_neg h13,if_pos h00];have e:ge 65533=[239,191,189]:=by decide
     rw[h00]at hb;rw[e,h00];simp;intro hh;rw[<-hh]at hb;simp at hb
    ·rw[if_neg h13,if_neg h00]
     by_cases hbad:(one (b::t)).1=65533/\(one (b::t)).2=1
     ·rw[if_pos hbad]
      have e:ge 65533=[239,191,189]:=by decide
      rw[hbad.1,e];simp only[Bool.false_and,Bool.false_eq_true,iff_false];intro hh
      have:one (b::t)=(65533,3):=by
       rw[<-hh,zAi,zAi,zAi,one];simp[hdr,goV,follows,yW]
      rw[this]at hbad;simp at hbad
     ·rw[if_neg hbad]
      have hbad':¬((Lib.decodeL (b::t)).1=65533/\(Lib.decodeL (b::t)).2=1):=by rw[<-yh];exact hbad
      have henc:=Lib.encode_decode (b::t) (by simp) hbad'
      rw[<-yh,<-Ms]at henc;rw[henc];have ih:=HB n ((b::t).drop (one (b::t)).2) (some (one (b::t)).1) hd (by simpa using h13)
      simp only[kC,isU]at ih
      have key:(List.take (one (b::t)).2 (b::t)++(zBe ge (lm (some (one (b::t)).1) (dy (zBc (one (b::t)).2 (b::t))))).flatten=b::t)↔((zBe ge (lm (some (one (b::t)).1) (dy (zBc (one (b::t)).2 (b::t))))).flatten=zBc (one (b::t)).2 (b::t)):=by
       constructor
       ·intro hh
        have h2:=hh.trans (zBa (one (b::t)).2 (b::t)).symm;exact List.append_cancel_left h2
       ·intro hh
        rw[hh];exact zBa _ _
      rw[key,ih];simp[h13,h00]
theorem Oh(s:Str):right s=isU s:=by
 have:=HB s.length s none (zBd _) (by simp)
 unfold right dN;rw[Bool.eq_iff_iff,decide_eq_true_iff];exact this
theorem Sv(s:Str)(p:Nat)(h:p<s.length):uI s p=one (s.drop p):=by
 have:uI s p=Lib.decodeL (s.drop p):=by
  have:=Lib.decodeL_drop ⟨s.toArray⟩ p;simpa[uI]using this.symm
 rw[this];cases hs:s.drop p with
 |nil=>have:=congrArg List.length hs;simp at this;omega
 |cons b t=>rw[yh]
end Go.Abs.F
end
section
namespace Go.Abs.F
open Go.Proofs
end Go.Abs.F
end
section
namespace Go.Abs.F
open Go.Proofs
attribute [-simp] getElem?_pos Option.not_isSome List.map_map
theorem OH{b:Bool}{n:Node}{l:List Node}(h:xH b (n::l)=0):qJ n b=0/\xH false n.kids=0/\xH (decide (n.kind=2)) l=0:=by
 simp only[xH,M8]at h;split at h
 ·rename_i h1
  split at h
  ·rename_i h2;exact⟨h1,h2,h⟩
  ·rename_i h2;exact(h2 h).elim
 ·rename_i h1;exact(h1 h).elim
theorem Em{par:Str}{n m:Node}(hr:raw par=false)(hk:m.kind=n.kind)(hn:m.name=n.name):cJ par m=cJ par n:=by
 simp[cJ,hr,hk,hn]
end Go.Abs.F
end
