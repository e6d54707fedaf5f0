/- Plain: the texts that are right: the document's answer and the program's. No condition. -/
import Derived.Test.YtedmnakfknbabaaGreatDoorAF1
import Derived.Lib.MapLaws
import Derived.Lib.TrimUEq
import Derived.Lib.ValidU
import Derived.Test.YtedmnakfknbabaaGreatDoorAW0
import Derived.Lib.IndexMore
set_option linter.all false
set_option maxHeartbeats 0
set_option maxRecDepth 100000
open List renaming reduceReplicate→zAa,length_cons→zAb,getD_cons_zero→zAc,getD_cons_succ→zAd,map_cons→zAe,length_drop→zAf,map_nil→zAg,eq_nil_of_length_eq_zero→zAh,take_succ_cons→zAi,cons_append→zAj,take_zero→zBa,take_append_drop→zBb,drop→zBd,map→zBf
open Nat renaming reduceSub→zBc,le_refl→zBe
section
namespace Go.Abs.F
open Go.Proofs
theorem dH(c:UInt8):follows c=true↔c.toNat/64=2:=by
 have:=c.toNat_lt;simp[follows];omega
theorem eE{c:UInt8}(h:¬c.toNat/64=2):follows c=false:=by
 cases h':follows c with
 |false=>rfl
 |true=>exact(h ((dH c).1 h')).elim
theorem dN2{n b0 b1 b2 b3:Nat}(h:192<=b0/\b0<224)(hn:1<n)(h1:b1/64=2):Lib.decodeN n b0 b1 b2 b3=if b0%32*64+b1%64 ≥ 128 then(b0%32*64+b1%64,2)else(65533,1):=by
 unfold Lib.decodeN;rw[if_neg (show ¬b0<128 by omega),if_pos (show b0/32=6/\(1<n/\b1/64=2)from⟨by omega,hn,h1⟩)]
theorem dN2n{n b0 b1 b2 b3:Nat}(h:192<=b0/\b0<224)(hn:¬(1<n/\b1/64=2)):Lib.decodeN n b0 b1 b2 b3=(65533,1):=by
 unfold Lib.decodeN;rw[if_neg (show ¬b0<128 by omega),if_neg (show ¬(b0/32=6/\(1<n/\b1/64=2))from fun h=>hn h.2),if_neg (by omega),if_neg (by omega)]
theorem dN3{n b0 b1 b2 b3:Nat}(h:224<=b0/\b0<240)(hn:2<n)(h1:b1/64=2)(h2:b2/64=2):Lib.decodeN n b0 b1 b2 b3=if b0%16*4096+b1%64*64+b2%64 ≥ 2048/\(b0%16*4096+b1%64*64+b2%64<55296\/(57344<=b0%16*4096+b1%64*64+b2%64/\b0%16*4096+b1%64*64+b2%64<=1114111))then(b0%16*4096+b1%64*64+b2%64,3)else(65533,1):=by
 unfold Lib.decodeN;rw[if_neg (show ¬b0<128 by omega),if_neg (show ¬(b0/32=6/\(1<n/\b1/64=2)) by omega),if_pos (show b0/16=14/\(1<n/\b1/64=2)/\(2<n/\b2/64=2)from⟨by omega,⟨by omega,h1⟩,hn,h2⟩)]
theorem Qr{n b0 b1 b2 b3:Nat}(h:224<=b0/\b0<240)(hn:¬(2<n/\b1/64=2/\b2/64=2)):Lib.decodeN n b0 b1 b2 b3=(65533,1):=by
 unfold Lib.decodeN;rw[if_neg (show ¬b0<128 by omega),if_neg (show ¬(b0/32=6/\(1<n/\b1/64=2)) by omega),if_neg (show ¬(b0/16=14/\(1<n/\b1/64=2)/\(2<n/\b2/64=2))from fun h=>hn ⟨h.2.2.1,h.2.1.2,h.2.2.2⟩),if_neg (by omega)]
theorem dN4{n b0 b1 b2 b3:Nat}(h:240<=b0/\b0<248)(hn:3<n)(h1:b1/64=2)(h2:b2/64=2)(h3:b3/64=2):Lib.decodeN n b0 b1 b2 b3=if b0%8*262144+b1%64*4096+b2%64*64+b3%64 ≥ 65536/\(b0%8*262144+b1%64*4096+b2%64*64+b3%64<55296\/(57344<=b0%8*262144+b1%64*4096+b2%64*64+b3%64/\b0%8*262144+b1%64*4096+b2%64*64+b3%64<=1114111))then(b0%8*262144+b1%64*4096+b2%64*64+b3%64,4)else(65533,1):=by
 unfold Lib.decodeN
 rw[if_neg (show ¬b0<128 by omega),if_neg (show ¬(b0/32=6/\(1<n/\b1/64=2)) by omega),if_neg (show ¬(b0/16=14/\(1<n/\b1/64=2)/\(2<n/\b2/64=2)) by omega),
  if_pos (show b0/8=30/\(1<n/\b1/64=2)/\(2<n/\b2/64=2)/\(3<n/\b3/64=2)from⟨by omega,⟨by omega,h1⟩,⟨by omega,h2⟩,hn,h3⟩)]
theorem JY{n b0 b1 b2 b3:Nat}(h:240<=b0/\b0<248)(hn:¬(3<n/\b1/64=2/\b2/64=2/\b3/64=2)):Lib.decodeN n b0 b1 b2 b3=(65533,1):=by
 unfold Lib.decodeN
 rw[if_neg (show ¬b0<128 by omega),if_neg (show ¬(b0/32=6/\(1<n/\b1/64=2)) by omega),if_neg (show ¬(b0/16=14/\(1<n/\b1/64=2)/\(2<n/\b2/64=2)) by omega),
  if_neg (show ¬(b0/8=30/\(1<n/\b1/64=2)/\(2<n/\b2/64=2)/\(3<n/\b3/64=2))from fun h=>hn ⟨h.2.2.2.1,h.2.1.2,h.2.2.1.2,h.2.2.2.2⟩)]
theorem dN0{n b0 b1 b2 b3:Nat}(h:128<=b0)(h2:¬(192<=b0/\b0<224))(h3:¬(224<=b0/\b0<240))(h4:¬(240<=b0/\b0<248)):Lib.decodeN n b0 b1 b2 b3=(65533,1):=by
 unfold Lib.decodeN;rw[if_neg (show ¬b0<128 by omega),if_neg (by omega),if_neg (by omega),if_neg (by omega)]
theorem uz(b:UInt8)(t:Str):one (b::t)=Lib.decodeL (b::t):=by
 have hb:=b.toNat_lt;rw[Lib.decodeL_N];simp only[one,zAc,zAd,zAb];by_cases h1:b.toNat<128
 ·simp[Lib.decodeN,h1]
 rw[if_neg h1];by_cases h2:192<=b.toNat/\b.toNat<224
 ·have e:hdr b.toNat=(2,b.toNat-192,128):=by simp[hdr,h2]
  rw[e];cases t with
  |nil=>rw[dN2n h2 (by simp)];simp
  |cons c u=>
    have hc:=c.toNat_lt;simp only[zAc,zAd,zAb,zAi,zBa,goV,zBc];rw[if_neg (show ¬(2=0\/u.length+1+1<2) by omega)]
    by_cases f1:c.toNat/64=2
    ·rw[if_pos ((dH c).2 f1),dN2 h2 (by omega) f1]
     have ev:64*(b.toNat-192)+c.toNat-128=b.toNat%32*64+c.toNat%64:=by omega
     rw[ev];simp only[vj]
     repeat' split
     all_goals first|rfl|omega
    ·rw[eE f1,dN2n h2 (by omega)]
     rfl
 by_cases h3:224<=b.toNat/\b.toNat<240
 ·have e:hdr b.toNat=(3,b.toNat-224,2048):=by unfold hdr;rw[if_neg h2,if_pos h3]
  rw[e]
  match t with
  |[]=>rw[Qr h3 (by simp)];simp
  |[c]=>rw[Qr h3 (by simp)];simp
  |c::d::u=>
    have hc:=c.toNat_lt;have hd:=d.toNat_lt;simp only[zAc,zAd,zAb,zAi,zBa,goV,zBc];rw[if_neg (show ¬(3=0\/u.length+1+1+1<3) by omega)]
    by_cases f1:c.toNat/64=2
    ·rw[if_pos ((dH c).2 f1)]
     by_cases f2:d.toNat/64=2
     ·rw[if_pos ((dH d).2 f2),dN3 h3 (by omega) f1 f2]
      have ev:64*(64*(b.toNat-224)+c.toNat-128)+d.toNat-128=b.toNat%16*4096+c.toNat%64*64+d.toNat%64:=by omega
      rw[ev];simp only[vj]
      repeat' split
      all_goals first|rfl|omega
     ·rw[eE f2,Qr h3 (by omega)]
      rfl
    ·rw[eE f1,Qr h3 (by omega)]
     rfl
 by_cases h4:240<=b.toNat/\b.toNat<248
 ·have e:hdr b.toNat=(4,b.toNat-240,65536):=by unfold hdr;rw[if_neg h2,if_neg h3,if_pos h4]
  rw[e]
  match t with
  |[]=>rw[JY h4 (by simp)];simp
  |[c]=>rw[JY h4 (by simp)];simp
  |[c,d]=>rw[JY h4 (by simp)];simp
  |c::d::k::u=>
    have hc:=c.toNat_lt;have hd:=d.toNat_lt;have hk:=k.toNat_lt;simp only[zAc,zAd,zAb,zAi,zBa,goV,zBc];rw[if_neg (show ¬(4=0\/u.length+1+1+1+1<4) by omega)]
    by_cases f1:c.toNat/64=2
    ·rw[if_pos ((dH c).2 f1)]
     by_cases f2:d.toNat/64=2
     ·rw[if_pos ((dH d).2 f2)]
      by_cases f3:k.toNat/64=2
      ·rw[if_pos ((dH k).2 f3),dN4 h4 (by omega) f1 f2 f3]
       have ev:64*(64*(64*(b.toNat-240)+c.toNat-128)+d.toNat-128)+k.toNat-128=b.toNat%8*262144+c.toNat%64*4096+d.toNat%64*64+k.toNat%64:=by omega
       rw[ev];simp only[vj]
       repeat' split
       all_goals first|rfl|omega
      ·rw[eE f3,JY h4 (by omega)]
       rfl
     ·rw[eE f2,JY h4 (by omega)]
      rfl
    ·rw[eE f1,JY h4 (by omega)]
     rfl
 have e:hdr b.toNat=(0,0,0):=by unfold hdr;rw[if_neg h2,if_neg h3,if_neg h4]
 rw[e,if_pos (.inl rfl),dN0 (by omega) h2 h3 h4]
theorem GY(r:Nat):fp r=Lib.encodeRune (r:Int):=by
 have g:∀(n:Nat)(z:Int),z=(n:Int)->z.toNat.toUInt8=b8 n:=by
  intro n z h;subst h;rfl
 unfold fp Lib.encodeRune Lib.encodeRuneZ;simp only;by_cases h0:1114111<r\/(55296<=r/\r<=57343)
 ·rw[if_pos h0,if_neg (show ¬(0<=(r:Int)/\(r:Int)<=127) by omega),if_neg (show ¬(128<=(r:Int)/\(r:Int)<=2047) by omega),
   if_neg (show ¬((2048<=(r:Int)/\(r:Int)<55296)\/(57343<(r:Int)/\(r:Int)<=65535)) by omega),if_neg (show ¬(65536<=(r:Int)/\(r:Int)<=1114111) by omega)]
  decide
 ·rw[if_neg h0]
  by_cases h1:r<128
  ·rw[if_pos h1,if_pos (by omega)]
   simp only[zAe,zAg];rw[g r _ rfl]
  ·rw[if_neg h1,if_neg (by omega:¬(0<=(r:Int)/\(r:Int)<=127))]
   by_cases h2:r<2048
   ·rw[if_pos h2,if_pos (by omega)]
    simp only[zAe,zAg];rw[g (192+r/64) _ (by omega),g (128+r%64) _ (by omega)]
   ·rw[if_neg h2,if_neg (by omega:¬(128<=(r:Int)/\(r:Int)<=2047))]
    by_cases h3:r<65536
    ·rw[if_pos h3,if_pos (by omega)]
     simp only[zAe,zAg];rw[g (224+r/4096) _ (by omega),g (128+r/64%64) _ (by omega),g (128+r%64) _ (by omega)]
    ·rw[if_neg h3,if_neg (by omega),if_pos (by omega)]
     simp only[zAe,zAg];rw[g (240+r/262144) _ (by omega),g (128+r/4096%64) _ (by omega),g (128+r/64%64) _ (by omega),g (128+r%64) _ (by omega)]
theorem dP:∀n,Lib.validGoD n []=true
 |0=>rfl
 |_+1=>by simp[Lib.validGoD]
theorem oy:∀(n m:Nat)(l:Str),l.length<=n->l.length<=m->Lib.validGoD n l=Lib.validGoD m l
 |0,m,l,hn,_=>by
   have:l=[]:=zAh (by omega)
   subst this;rw[dP,dP]
 |n+1,0,l,_,hm=>by
   have:l=[]:=zAh (by omega)
   subst this;rw[dP,dP]
 |n+1,m+1,l,hn,hm=>by
   by_cases hne:l=[]
   ·subst hne
    rw[dP,dP]
   ·have hw:=Lib.decodeL_width l
    have hl:0<l.length:=List.length_pos_iff.2 hne;simp only[Lib.validGoD,if_neg hne];rw[oy n m _ (by rw[zAf];omega) (by rw[zAf];omega)]
theorem CT(b:UInt8)(t:Str):Lib.validD (b::t)=if(one (b::t)).1=65533/\(one (b::t)).2=1 then false else Lib.validD ((b::t).drop (one (b::t)).2):=by
 rw[uz];unfold Lib.validD;simp only[zAb,Lib.validGoD,List.cons_ne_nil,if_false];have hw:=Lib.decodeL_width (b::t);rw[oy t.length _ _ (by rw[zAf];simp;omega) (zBe _)]
def isU(s:Str):Bool:=Lib.validD s&&(cT s).all fun r=>!decide (r=0)&& !decide (r=13)
theorem zM{b:UInt8}{t:Str}(h:(one (b::t)).1<128):b.toNat=(one (b::t)).1:=by
 simp only[one]at h⊢;by_cases h1:b.toNat<128
 ·rw[if_pos h1]
 ·rw[if_neg h1]at h
  exfalso;by_cases h2:(hdr b.toNat).1=0\/t.length+1<(hdr b.toNat).1
  ·rw[if_pos h2]at h;simp at h
  ·rw[if_neg h2]at h
   have h3:128<=(hdr b.toNat).2.2:=by
    have h2':¬(hdr b.toNat).1=0:=fun h=>h2 (.inl h);revert h2';unfold hdr
    repeat' split
    all_goals simp
   revert h;unfold vj;split
   ·simp
   ·split
    ·simp
    ·rename_i h4
     simp only;omega
theorem C0:∀(n:Nat)(s:Str)(p:Option Nat),s.length<=n->p≠some 13->(ji (jL p (cT s))=s↔isU s=true)
 |n,[],p,_,_=>by simp[cT,fA,jL,ji,isU,Lib.validD,Lib.validGoD]
 |0,b::t,p,h,_=>by simp at h
 |n+1,b::t,p,h,hp=>by
   have hor:=fD (b::t);have hlen:=hor.2.2.1 (by simp)
   have hd:((b::t).drop (one (b::t)).2).length<=n:=by rw[zAf];simp at h⊢;omega
   rw[fy];simp only[jL,isU,fy,List.all_cons,CT];rw[if_neg (fun h=>hp h.2)];simp only[ji,List.map_append,zAe,zAg,List.flatten_append,List.flatten_cons,List.flatten_nil,List.append_nil];by_cases h13:(one (b::t)).1=13
   ·have hb:=zM (b:=b) (t:=t) (by omega)
    rw[if_pos h13];have e10:fp 10=[10]:=by decide
    rw[h13]at hb;rw[e10,h13];simp;intro hh;rw[<-hh]at hb;simp at hb
   ·by_cases h00:(one (b::t)).1=0
    ·have hb:=zM (b:=b) (t:=t) (by omega)
     rw[if_neg h13,if_pos h00];have e:fp 65533=[239,191,189]:=by decide
     rw[h00]at hb;rw[e,h00];simp;intro hh;rw[<-hh]at hb;simp at hb
    ·rw[if_neg h13,if_neg h00]
     by_cases hbad:(one (b::t)).1=65533/\(one (b::t)).2=1
     ·rw[if_pos hbad]
      have e:fp 65533=[239,191,189]:=by decide
      rw[hbad.1,e];simp only[Bool.false_and,Bool.false_eq_true,iff_false];intro hh
      have:one (b::t)=(65533,3):=by
       rw[<-hh,zAj,zAj,zAj,one];simp[hdr,goV,follows,vj]
      rw[this]at hbad;simp at hbad
     ·rw[if_neg hbad]
      have hbad':¬((Lib.decodeL (b::t)).1=65533/\(Lib.decodeL (b::t)).2=1):=by rw[<-uz];exact hbad
      have henc:=Lib.encode_decode (b::t) (by simp) hbad'
      rw[<-uz,<-GY]at henc;rw[henc];have ih:=C0 n ((b::t).drop (one (b::t)).2) (some (one (b::t)).1) hd (by simpa using h13)
      simp only[ji,isU]at ih
      have key:(List.take (one (b::t)).2 (b::t)++(zBf fp (jL (some (one (b::t)).1) (cT (zBd (one (b::t)).2 (b::t))))).flatten=b::t)↔((zBf fp (jL (some (one (b::t)).1) (cT (zBd (one (b::t)).2 (b::t))))).flatten=zBd (one (b::t)).2 (b::t)):=by
       constructor
       ·intro hh
        have h2:=hh.trans (zBb (one (b::t)).2 (b::t)).symm;exact List.append_cancel_left h2
       ·intro hh
        rw[hh];exact zBb _ _
      rw[key,ih];simp[h13,h00]
theorem IQ(s:Str):right s=isU s:=by
 have:=C0 s.length s none (zBe _) (by simp)
 unfold right dm;rw[Bool.eq_iff_iff,decide_eq_true_iff];exact this
theorem Ng(s:Str)(p:Nat)(h:p<s.length):ro s p=one (s.drop p):=by
 have:ro s p=Lib.decodeL (s.drop p):=by
  have:=Lib.decodeL_drop ⟨s.toArray⟩ p;simpa[ro]using this.symm
 rw[this];cases hs:s.drop p with
 |nil=>have:=congrArg List.length hs;simp at this;omega
 |cons b t=>rw[uz]
end Go.Abs.F
end
section
namespace Go.Abs.F
open Go.Proofs
attribute [-simp] getElem?_pos Option.not_isSome List.map_map
theorem lP(s t:Str)(hs:s.length<4294967281):Fn Tryz.prog tN [.str s,.str t] (.int .i64 (Lib.index s t)):=by
 refine Fn.of_image mixed t7 tU rfl fun ho=>?_;unfold lR;simp only[oks,ok,and_true]at ho;clear ho;simp(disch:=omega) [-zAa];refine ae (ov s t hs) rfl fun _=>?_;simp(disch:=omega) [-zAa]
theorem p4(s t:Str)(hs:s.length<4294967281):Fn Tryz.prog pJ [.str s,.str t] (.bool (decide (0<=Lib.index s t))):=by
 refine Fn.of_image mixed pU pP rfl fun ho=>?_;unfold i4;simp only[oks,ok,and_true]at ho;clear ho;simp(disch:=omega) [-zAa];refine ae (lP s t hs) rfl fun _=>?_;simp(disch:=omega) [-zAa]
theorem jO (s:Str):Fn Tryz.prog eV [.str s,.str [42]] (.bool (eI s).2):=by
 refine Fn.of_image mixed fg e9 rfl fun ho=>?_
 unfold cf
 simp only [oks,ok,and_true] at ho
 by_cases hp:0 < s.length
 · obtain ⟨x,hx⟩:=a8 (l:=s) (k:=s.length - 1) (by omega)
   have hd:s.drop (s.length - 1)=[x]:=by
    rw [List.drop_eq_getElem_cons (by omega)]
    have:s[s.length - 1]?=some (s[s.length - 1]'(by omega)):=List.getElem?_eq_getElem _
    rw [this] at hx
    cases hx
    have:s.drop (s.length - 1 + 1)=[]:=by rw [List.drop_eq_nil_iff]; omega
    rw [this]
   have e:((s.length:Int) - 1).toNat=s.length - 1:=by omega
   have hst:(eI s).2=decide (x=42):=by
    simp only [eI,hx]
    by_cases h:x.toNat=42
    · have:x=42:=by apply UInt8.toNat_inj.1; simpa using h
      simp [this]
    · have:¬x=42:=by rintro rfl; simp at h
      simp [h,this]
   rw [hst]
   simp (disch:=omega) [-zAa,e,hd]
   repeat' (first | (refine BrKd.mk (fun h=>?_) (fun h=>?_)<;>simp (disch:=omega) [*]) | (refine BrK.mk (fun h=>?_) (fun h=>?_)<;>simp (disch:=omega) [*]))
   all_goals first
    | omega
    | (have e1:s.length - (s.length - 1)=1:=by omega
       simp [*,e1])
 · have:s=[]:=by cases s; rfl; simp at hp
   subst this
   simp (disch:=omega) [-zAa,eI]
theorem jP(s:Str):Fn Tryz.prog eX [.str s,.str [42]] (.tup [.str (eI s).1,.bool (eI s).2]):=by
 refine Fn.of_image mixed fj fd rfl fun ho=>?_;unfold ci;simp only[oks,ok,and_true]at ho;simp(disch:=omega) [-zAa];refine ae (jO s) rfl fun _=>?_;simp(disch:=omega) [-zAa];refine BrK.mk (fun h=>?_) (fun h=>?_)
 ·have hp:0<s.length:=by
   cases s with
   |nil=>simp[eI]at h
   |cons _ _=>simp
  have e:((s.length:Int)-1).toNat=s.length-1:=by omega
  have c1:1<=s.length:=hp;have c2:(s.length:Int)-1<=s.length:=by omega
  have hst:eI s=(s.take (s.length-1),true):=by
   cases hx:s[s.length-1]? with
   |none=>simp[eI,hx]at h
   |some x=>by_cases hc:x.toNat=42<;>simp[eI,hx,hc]at h⊢
  simp(disch:=omega) [-zAa,hst,e,c1,c2]
 ·have hst:eI s=(s,false):=by
   cases hx:s[s.length-1]? with
   |none=>simp[eI,hx]
   |some x=>by_cases hc:x.toNat=42<;>simp[eI,hx,hc]at h⊢
  simp(disch:=omega) [-zAa,hst]
theorem m1(s:Str):Fn Tryz.prog oc [.str s,.str [42]] (.tup [.str (eI s).1,.bool (eI s).2]):=by
 refine Fn.of_image mixed ot om rfl fun ho=>?_;unfold hZ;simp only[oks,ok,and_true]at ho;simp(disch:=omega) [-zAa];refine ae (jP s) rfl fun _=>?_;simp(disch:=omega) [-zAa]
theorem sq(s:Str):Fn Tryz.prog r9 [.str s] (.tup [.str (eI s).1,.bool (eI s).2,.bool (plain (eI s).1)]):=by
 refine Fn.of_image mixed sj sh rfl fun ho=>?_;unfold kB;simp only[oks,ok,and_true]at ho;simp(disch:=omega) [-zAa];refine ae (m1 s) rfl fun _=>?_;simp(disch:=omega) [-zAa];refine ae (wE _) rfl fun _=>?_;simp(disch:=omega) [-zAa]
theorem EV(s:Str):ew s s=true:=by simp[ew]
theorem yW(pat nm:Str):Fn Tryz.prog xF [.str pat,.str nm] (.bool (fits pat nm)):=by
 refine Fn.of_image mixed yE ya rfl fun ho=>?_;unfold pf;simp only[oks,ok,and_true]at ho;simp(disch:=omega) [-zAa,fits];refine ae (sq pat) rfl fun _=>?_;generalize(eI pat).1=a at *;generalize(eI pat).2=b at *;simp(disch:=omega) [-zAa]
 repeat' (first|(refine BrKd.mk (fun h=>?_) (fun h=>?_)<;>simp(disch:=omega) [*])|(refine BrK.mk (fun h=>?_) (fun h=>?_)<;>simp(disch:=omega) [*])|(refine ae (gY _ _) rfl (fun _=>?_)<;>simp(disch:=omega) [*])|(refine aF (gY _ _) rfl ?_<;>simp(disch:=omega) [*]))
 all_goals simp[EV, *]
theorem yV(e:Allowed)(s:Str):Fn Tryz.prog xE [e.v,.str s] (.tup [((gx e.rules s).getD .zero).v,.bool (gx e.rules s).isSome]):=by
 refine Fn.of_image mixed yD x9 rfl fun ho=>?_;unfold pe;simp only[oks,ok,and_true]at ho;have hlen:e.rules.length<=140737488355328:=by have:=ho.1;simp at this;exact this.2.2.1
 clear ho;simp(disch:=omega) [-zAa];generalize hr:gx e.rules s=r;refine an (fun k:Nat=>⟨[(1,.str s),(4,.ptr 0 0),(9,.seq 5 (e.rules.map Rule.v)),(10,.int .i64 e.rules.length),(11,.int .i64 k)],[some (.box [.str [],.int .i64 0,.nil 1,.str [],.bool false])]⟩) (fun k=>k<=e.rules.length/\gx (e.rules.drop k) s=r) (fun k=>e.rules.length-k) [] _ 0 rfl (by simp[*]) (by simp[*]) ?_
 rintro k ⟨hk,hi⟩ N hN;rcases place e.rules k hk with⟨he,hd⟩|⟨hlt,x,hx,hd⟩<;>rw[hd]at hi<;>replace hi:=hid hi
 ·simp(disch:=omega) [-zAa,he]
  simp[<-hi.out,gx,Rule.zero]
 ·simp(disch:=omega) [-zAa,hx]
  refine ae (yW _ _) rfl fun _=>?_;simp(disch:=omega) [-zAa];refine BrK.mk (fun h=>?_) (fun h=>?_)
  ·simp(disch:=omega) [-zAa,hx]
   have hi:=hi.out;simp[gx,h]at hi;subst hi;simp
  ·simp(disch:=omega) [-zAa]
   refine hN.out _<|Nx.mk (k+1) (by simp[*]) ⟨by omega,?_⟩ (by omega)
   have hi:=hi.out;simpa[gx,h]using hi
def qO(p:Policy)(par:Str)(n:Node):Bool:=
 if par=[]then(if n.kind=2 then hasS p.top eD else if n.kind=3 then hasS p.top bD else decide (n.kind=1)&&((aU p.elements n.name).isSome&&hasS p.top n.name))
 else match aU p.elements par with
  |none=>false
  |some e=>if n.kind=2 then hasS e.kids eD else if n.kind=3 then hasS e.kids bD else decide (n.kind=1)&&((aU p.elements n.name).isSome&&hasS e.kids n.name)
theorem uh(p:Policy)(par:Str)(n:Node):Fn Tryz.prog tR [p.v,.str par,n.v] (.bool (qO p par n)):=by
 refine Fn.of_image mixed uc tY rfl fun ho=>?_;unfold lV;simp only[oks,ok,and_true]at ho;clear ho;simp(disch:=omega) [-zAa,qO];refine BrKd.mk (fun h=>?_) (fun h=>?_)
 ·simp(disch:=omega) [-zAa,h]
  repeat' (first
   |(refine BrKd.mk (fun h=>?_) (fun h=>?_)<;>simp(disch:=omega) [*])
   |(refine BrK.mk (fun h=>?_) (fun h=>?_)<;>simp(disch:=omega) [*])
   |(refine aP (fO p n.name) (by simp) (fun _=>?_)<;>simp(disch:=omega) [*])
   |(refine ae (f_slices_Contains_string p.top _) rfl (fun _=>?_)<;>simp(disch:=omega) [eD,bD, *]))
 ·simp(disch:=omega) [-zAa,h]
  refine aP (fO p par) (by simp) fun _=>?_
  cases hf:aU p.elements par with
  |none=>
    simp(disch:=omega) [-zAa,hf]
  |some e=>
    simp(disch:=omega) [-zAa,hf]
    repeat' (first
     |(refine BrKd.mk (fun h=>?_) (fun h=>?_)<;>simp(disch:=omega) [*])
     |(refine BrK.mk (fun h=>?_) (fun h=>?_)<;>simp(disch:=omega) [*])
     |(refine aP (fO p n.name) (by simp) (fun _=>?_)<;>simp(disch:=omega) [*])
     |(refine ae (f_slices_Contains_string e.kids _) rfl (fun _=>?_)<;>simp(disch:=omega) [eD,bD, *]))
theorem y5(l:List Attr)(s:Str):Fn Tryz.prog xJ [.seq 2 (l.map Attr.v),.str s] (.bool (jK l s)):=by
 refine Fn.of_image mixed yJ yf rfl fun ho=>?_;unfold pm;simp only[oks,ok,and_true]at ho;have hlen:l.length<=140737488355328:=by have:=ho.1.1;simpa using this
 clear ho;simp(disch:=omega) [-zAa];generalize hr:jK l s=r;refine an (fun k:Nat=>⟨[(1,.str s),(7,.seq 2 (l.map Attr.v)),(8,.int .i64 l.length),(9,.int .i64 k)],[]⟩) (fun k=>k<=l.length/\jK (l.drop k) s=r) (fun k=>l.length-k) [] _ 0 rfl (by simp[*]) (by simp[*]) ?_
 rintro k ⟨hk,hi⟩ N hN;rcases place l k hk with⟨he,hd⟩|⟨hlt,x,hx,hd⟩<;>rw[hd]at hi<;>replace hi:=hid hi
 ·simp(disch:=omega) [-zAa,he]
  simpa[jK]using hi.out
 ·simp(disch:=omega) [-zAa,hx]
  repeat' (first|(refine BrKd.mk (fun h=>?_) (fun h=>?_)<;>simp(disch:=omega) [*])|(refine BrK.mk (fun h=>?_) (fun h=>?_)<;>simp(disch:=omega) [*]))
  all_goals first
   |(refine hN.out _<|Nx.mk (k+1) (by simp[*]) ⟨by omega,?_⟩ (by omega);simpa(disch:=omega) [*,decide_eq_true,decide_eq_false,jK]using hi.out)
   |(first|simpa(disch:=omega) [*,decide_eq_true,decide_eq_false,jK]using hi.out.symm|simpa(disch:=omega) [*,decide_eq_true,decide_eq_false,jK]using hi.out)
def nB(p:Policy)(k:Int)(par:Str)(n:Node):Bool:=if(k=0/\par=[])\/(k=1/\par≠[])then qO p par n else false
theorem wI (p:Policy) (k:Int) (par:Str) (n:Node):Fn Tryz.prog vC [p.v,.strct [.int .i64 k,.str par],n.v] (.bool (nB p k par n)):=by
 refine Fn.of_image mixed wm vX rfl fun ho=>?_
 unfold nr
 simp only [oks,ok,and_true] at ho
 clear ho
 by_cases h0:k=0<;>by_cases hp:par=[]<;>by_cases h1:k=1
 all_goals first
  | omega
  | (simp (disch:=omega) [-zAa,nB,aY,eK,bn,kOf,aI,cl,eqK,rj,eqC,h0,hp,h1]; done)
  | (simp (disch:=omega) [-zAa,nB,aY,eK,bn,kOf,aI,cl,eqK,rj,eqC,h0,hp,h1]
     refine ae (by simpa using uh p _ n) rfl fun _=>?_
     simp (disch:=omega) [-zAa,h0,hp,h1]; done)
end Go.Abs.F
end
