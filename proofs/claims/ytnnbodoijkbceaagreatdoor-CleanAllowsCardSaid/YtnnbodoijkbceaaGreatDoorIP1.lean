/- Plain: the texts that are right: the document's answer and the program's. No condition. -/
import Derived.Test.YtnnbodoijkbceaaGreatDoorIF1
import Derived.Lib.MapLaws
import Derived.Lib.TrimUEq
import Derived.Lib.ValidU
set_option linter.all false
set_option maxHeartbeats 0
set_option maxRecDepth 100000
open List renaming cons_append→zAa,take_succ_cons→zAb,length_cons→zAc,not_mem_nil→zAd,take_zero→zAe,mem_cons→zAf,getD_cons_zero→zAg,getD_cons_succ→zAh,map_cons→zAi,length_drop→zAj,map_nil→zBa,mem_append→zBb,nil_append→zBc,eq_nil_of_length_eq_zero→zBd,getElem?_eq_some_iff→zBe,mem_filter→zBf,take_append_drop→zBg,drop→zBj,map→zCa
open Nat renaming reduceSub→zBh,le_refl→zBi
section
namespace Go.Abs.F
open Go.Proofs
theorem eQ(c:UInt8):follows c=true↔c.toNat/64=2:=by
 have:=c.toNat_lt;simp[follows];omega
theorem gb{c:UInt8}(h:¬c.toNat/64=2):follows c=false:=by
 cases h':follows c with
 |false=>rfl
 |true=>exact(h ((eQ c).1 h')).elim
theorem dN2{n b0 b1 b2 b3:Nat}(h:192<=b0/\b0<224)(hn:1<n)(h1:b1/64=2):Lib.decodeN n b0 b1 b2 b3=if b0%32*64+b1%64 ≥ 128 then(b0%32*64+b1%64,2)else(65533,1):=by
 unfold Lib.decodeN;rw[if_neg (show ¬b0<128 by omega),if_pos (show b0/32=6/\(1<n/\b1/64=2)from⟨by omega,hn,h1⟩)]
theorem dN2n{n b0 b1 b2 b3:Nat}(h:192<=b0/\b0<224)(hn:¬(1<n/\b1/64=2)):Lib.decodeN n b0 b1 b2 b3=(65533,1):=by
 unfold Lib.decodeN;rw[if_neg (show ¬b0<128 by omega),if_neg (show ¬(b0/32=6/\(1<n/\b1/64=2))from fun h=>hn h.2),if_neg (by omega),if_neg (by omega)]
theorem dN3{n b0 b1 b2 b3:Nat}(h:224<=b0/\b0<240)(hn:2<n)(h1:b1/64=2)(h2:b2/64=2):Lib.decodeN n b0 b1 b2 b3=if b0%16*4096+b1%64*64+b2%64 ≥ 2048/\(b0%16*4096+b1%64*64+b2%64<55296\/(57344<=b0%16*4096+b1%64*64+b2%64/\b0%16*4096+b1%64*64+b2%64<=1114111))then(b0%16*4096+b1%64*64+b2%64,3)else(65533,1):=by
 unfold Lib.decodeN;rw[if_neg (show ¬b0<128 by omega),if_neg (show ¬(b0/32=6/\(1<n/\b1/64=2)) by omega),if_pos (show b0/16=14/\(1<n/\b1/64=2)/\(2<n/\b2/64=2)from⟨by omega,⟨by omega,h1⟩,hn,h2⟩)]
theorem aaz{n b0 b1 b2 b3:Nat}(h:224<=b0/\b0<240)(hn:¬(2<n/\b1/64=2/\b2/64=2)):Lib.decodeN n b0 b1 b2 b3=(65533,1):=by
 unfold Lib.decodeN;rw[if_neg (show ¬b0<128 by omega),if_neg (show ¬(b0/32=6/\(1<n/\b1/64=2)) by omega),if_neg (show ¬(b0/16=14/\(1<n/\b1/64=2)/\(2<n/\b2/64=2))from fun h=>hn ⟨h.2.2.1,h.2.1.2,h.2.2.2⟩),if_neg (by omega)]
theorem dN4{n b0 b1 b2 b3:Nat}(h:240<=b0/\b0<248)(hn:3<n)(h1:b1/64=2)(h2:b2/64=2)(h3:b3/64=2):Lib.decodeN n b0 b1 b2 b3=if b0%8*262144+b1%64*4096+b2%64*64+b3%64 ≥ 65536/\(b0%8*262144+b1%64*4096+b2%64*64+b3%64<55296\/(57344<=b0%8*262144+b1%64*4096+b2%64*64+b3%64/\b0%8*262144+b1%64*4096+b2%64*64+b3%64<=1114111))then(b0%8*262144+b1%64*4096+b2%64*64+b3%64,4)else(65533,1):=by
 unfold Lib.decodeN
 rw[if_neg (show ¬b0<128 by omega),if_neg (show ¬(b0/32=6/\(1<n/\b1/64=2)) by omega),if_neg (show ¬(b0/16=14/\(1<n/\b1/64=2)/\(2<n/\b2/64=2)) by omega),
  if_pos (show b0/8=30/\(1<n/\b1/64=2)/\(2<n/\b2/64=2)/\(3<n/\b3/64=2)from⟨by omega,⟨by omega,h1⟩,⟨by omega,h2⟩,hn,h3⟩)]
theorem Uk{n b0 b1 b2 b3:Nat}(h:240<=b0/\b0<248)(hn:¬(3<n/\b1/64=2/\b2/64=2/\b3/64=2)):Lib.decodeN n b0 b1 b2 b3=(65533,1):=by
 unfold Lib.decodeN
 rw[if_neg (show ¬b0<128 by omega),if_neg (show ¬(b0/32=6/\(1<n/\b1/64=2)) by omega),if_neg (show ¬(b0/16=14/\(1<n/\b1/64=2)/\(2<n/\b2/64=2)) by omega),
  if_neg (show ¬(b0/8=30/\(1<n/\b1/64=2)/\(2<n/\b2/64=2)/\(3<n/\b3/64=2))from fun h=>hn ⟨h.2.2.2.1,h.2.1.2,h.2.2.1.2,h.2.2.2.2⟩)]
theorem dN0{n b0 b1 b2 b3:Nat}(h:128<=b0)(h2:¬(192<=b0/\b0<224))(h3:¬(224<=b0/\b0<240))(h4:¬(240<=b0/\b0<248)):Lib.decodeN n b0 b1 b2 b3=(65533,1):=by
 unfold Lib.decodeN;rw[if_neg (show ¬b0<128 by omega),if_neg (by omega),if_neg (by omega),if_neg (by omega)]
theorem AS(b:UInt8)(t:Str):one (b::t)=Lib.decodeL (b::t):=by
 have hb:=b.toNat_lt;rw[Lib.decodeL_N];simp only[one,zAg,zAh,zAc];by_cases h1:b.toNat<128
 ·simp[Lib.decodeN,h1]
 rw[if_neg h1];by_cases h2:192<=b.toNat/\b.toNat<224
 ·have e:hdr b.toNat=(2,b.toNat-192,128):=by simp[hdr,h2]
  rw[e];cases t with
  |nil=>rw[dN2n h2 (by simp)];simp
  |cons c u=>
    have hc:=c.toNat_lt;simp only[zAg,zAh,zAc,zAb,zAe,goV,zBh];rw[if_neg (show ¬(2=0\/u.length+1+1<2) by omega)]
    by_cases f1:c.toNat/64=2
    ·rw[if_pos ((eQ c).2 f1),dN2 h2 (by omega) f1]
     have ev:64*(b.toNat-192)+c.toNat-128=b.toNat%32*64+c.toNat%64:=by omega
     rw[ev];simp only[vD]
     repeat' split
     all_goals first|rfl|omega
    ·rw[gb f1,dN2n h2 (by omega)]
     rfl
 by_cases h3:224<=b.toNat/\b.toNat<240
 ·have e:hdr b.toNat=(3,b.toNat-224,2048):=by unfold hdr;rw[if_neg h2,if_pos h3]
  rw[e]
  match t with
  |[]=>rw[aaz h3 (by simp)];simp
  |[c]=>rw[aaz h3 (by simp)];simp
  |c::d::u=>
    have hc:=c.toNat_lt;have hd:=d.toNat_lt;simp only[zAg,zAh,zAc,zAb,zAe,goV,zBh];rw[if_neg (show ¬(3=0\/u.length+1+1+1<3) by omega)]
    by_cases f1:c.toNat/64=2
    ·rw[if_pos ((eQ c).2 f1)]
     by_cases f2:d.toNat/64=2
     ·rw[if_pos ((eQ d).2 f2),dN3 h3 (by omega) f1 f2]
      have ev:64*(64*(b.toNat-224)+c.toNat-128)+d.toNat-128=b.toNat%16*4096+c.toNat%64*64+d.toNat%64:=by omega
      rw[ev];simp only[vD]
      repeat' split
      all_goals first|rfl|omega
     ·rw[gb f2,aaz h3 (by omega)]
      rfl
    ·rw[gb f1,aaz h3 (by omega)]
     rfl
 by_cases h4:240<=b.toNat/\b.toNat<248
 ·have e:hdr b.toNat=(4,b.toNat-240,65536):=by unfold hdr;rw[if_neg h2,if_neg h3,if_pos h4]
  rw[e]
  match t with
  |[]=>rw[Uk h4 (by simp)];simp
  |[c]=>rw[Uk h4 (by simp)];simp
  |[c,d]=>rw[Uk h4 (by simp)];simp
  |c::d::k::u=>
    have hc:=c.toNat_lt;have hd:=d.toNat_lt;have hk:=k.toNat_lt;simp only[zAg,zAh,zAc,zAb,zAe,goV,zBh];rw[if_neg (show ¬(4=0\/u.length+1+1+1+1<4) by omega)]
    by_cases f1:c.toNat/64=2
    ·rw[if_pos ((eQ c).2 f1)]
     by_cases f2:d.toNat/64=2
     ·rw[if_pos ((eQ d).2 f2)]
      by_cases f3:k.toNat/64=2
      ·rw[if_pos ((eQ k).2 f3),dN4 h4 (by omega) f1 f2 f3]
       have ev:64*(64*(64*(b.toNat-240)+c.toNat-128)+d.toNat-128)+k.toNat-128=b.toNat%8*262144+c.toNat%64*4096+d.toNat%64*64+k.toNat%64:=by omega
       rw[ev];simp only[vD]
       repeat' split
       all_goals first|rfl|omega
      ·rw[gb f3,Uk h4 (by omega)]
       rfl
     ·rw[gb f2,Uk h4 (by omega)]
      rfl
    ·rw[gb f1,Uk h4 (by omega)]
     rfl
 have e:hdr b.toNat=(0,0,0):=by unfold hdr;rw[if_neg h2,if_neg h3,if_neg h4]
 rw[e,if_pos (.inl rfl),dN0 (by omega) h2 h3 h4]
theorem Rk(r:Nat):ci r=Lib.encodeRune (r:Int):=by
 have g:∀(n:Nat)(z:Int),z=(n:Int)->z.toNat.toUInt8=b8 n:=by
  intro n z h;subst h;rfl
 unfold ci Lib.encodeRune Lib.encodeRuneZ;simp only;by_cases h0:1114111<r\/(55296<=r/\r<=57343)
 ·rw[if_pos h0,if_neg (show ¬(0<=(r:Int)/\(r:Int)<=127) by omega),if_neg (show ¬(128<=(r:Int)/\(r:Int)<=2047) by omega),
   if_neg (show ¬((2048<=(r:Int)/\(r:Int)<55296)\/(57343<(r:Int)/\(r:Int)<=65535)) by omega),if_neg (show ¬(65536<=(r:Int)/\(r:Int)<=1114111) by omega)]
  decide
 ·rw[if_neg h0]
  by_cases h1:r<128
  ·rw[if_pos h1,if_pos (by omega)]
   simp only[zAi,zBa];rw[g r _ rfl]
  ·rw[if_neg h1,if_neg (by omega:¬(0<=(r:Int)/\(r:Int)<=127))]
   by_cases h2:r<2048
   ·rw[if_pos h2,if_pos (by omega)]
    simp only[zAi,zBa];rw[g (192+r/64) _ (by omega),g (128+r%64) _ (by omega)]
   ·rw[if_neg h2,if_neg (by omega:¬(128<=(r:Int)/\(r:Int)<=2047))]
    by_cases h3:r<65536
    ·rw[if_pos h3,if_pos (by omega)]
     simp only[zAi,zBa];rw[g (224+r/4096) _ (by omega),g (128+r/64%64) _ (by omega),g (128+r%64) _ (by omega)]
    ·rw[if_neg h3,if_neg (by omega),if_pos (by omega)]
     simp only[zAi,zBa];rw[g (240+r/262144) _ (by omega),g (128+r/4096%64) _ (by omega),g (128+r/64%64) _ (by omega),g (128+r%64) _ (by omega)]
theorem eY:∀n,Lib.validGoD n []=true
 |0=>rfl
 |_+1=>by simp[Lib.validGoD]
theorem sN:∀(n m:Nat)(l:Str),l.length<=n->l.length<=m->Lib.validGoD n l=Lib.validGoD m l
 |0,m,l,hn,_=>by
   have:l=[]:=zBd (by omega)
   subst this;rw[eY,eY]
 |n+1,0,l,_,hm=>by
   have:l=[]:=zBd (by omega)
   subst this;rw[eY,eY]
 |n+1,m+1,l,hn,hm=>by
   by_cases hne:l=[]
   ·subst hne
    rw[eY,eY]
   ·have hw:=Lib.decodeL_width l
    have hl:0<l.length:=List.length_pos_iff.2 hne;simp only[Lib.validGoD,if_neg hne];rw[sN n m _ (by rw[zAj];omega) (by rw[zAj];omega)]
theorem LK(b:UInt8)(t:Str):Lib.validD (b::t)=if(one (b::t)).1=65533/\(one (b::t)).2=1 then false else Lib.validD ((b::t).drop (one (b::t)).2):=by
 rw[AS];unfold Lib.validD;simp only[zAc,Lib.validGoD,List.cons_ne_nil,if_false];have hw:=Lib.decodeL_width (b::t);rw[sN t.length _ _ (by rw[zAj];simp;omega) (zBi _)]
def isU(s:Str):Bool:=Lib.validD s&&(dK s).all fun r=>!decide (r=0)&& !decide (r=13)
theorem Hr{b:UInt8}{t:Str}(h:(one (b::t)).1<128):b.toNat=(one (b::t)).1:=by
 simp only[one]at h⊢;by_cases h1:b.toNat<128
 ·rw[if_pos h1]
 ·rw[if_neg h1]at h
  exfalso;by_cases h2:(hdr b.toNat).1=0\/t.length+1<(hdr b.toNat).1
  ·rw[if_pos h2]at h;simp at h
  ·rw[if_neg h2]at h
   have h3:128<=(hdr b.toNat).2.2:=by
    have h2':¬(hdr b.toNat).1=0:=fun h=>h2 (.inl h);revert h2';unfold hdr
    repeat' split
    all_goals simp
   revert h;unfold vD;split
   ·simp
   ·split
    ·simp
    ·rename_i h4
     simp only;omega
theorem LT:∀(n:Nat)(s:Str)(p:Option Nat),s.length<=n->p≠some 13->(eA (i9 p (dK s))=s↔isU s=true)
 |n,[],p,_,_=>by simp[dK,ik,i9,eA,isU,Lib.validD,Lib.validGoD]
 |0,b::t,p,h,_=>by simp at h
 |n+1,b::t,p,h,hp=>by
   have hor:=io (b::t);have hlen:=hor.2.2.1 (by simp)
   have hd:((b::t).drop (one (b::t)).2).length<=n:=by rw[zAj];simp at h⊢;omega
   rw[fU];simp only[i9,isU,fU,List.all_cons,LK];rw[if_neg (fun h=>hp h.2)];simp only[eA,List.map_append,zAi,zBa,List.flatten_append,List.flatten_cons,List.flatten_nil,List.append_nil];by_cases h13:(one (b::t)).1=13
   ·have hb:=Hr (b:=b) (t:=t) (by omega)
    rw[if_pos h13];have e10:ci 10=[10]:=by decide
    rw[h13]at hb;rw[e10,h13];simp;intro hh;rw[<-hh]at hb;simp at hb
   ·by_cases h00:(one (b::t)).1=0
    ·have hb:=Hr (b:=b) (t:=t) (by omega)
     rw[if_neg h13,if_pos h00];have e:ci 65533=[239,191,189]:=by decide
     rw[h00]at hb;rw[e,h00];simp;intro hh;rw[<-hh]at hb;simp at hb
    ·rw[if_neg h13,if_neg h00]
     by_cases hbad:(one (b::t)).1=65533/\(one (b::t)).2=1
     ·rw[if_pos hbad]
      have e:ci 65533=[239,191,189]:=by decide
      rw[hbad.1,e];simp only[Bool.false_and,Bool.false_eq_true,iff_false];intro hh
      have:one (b::t)=(65533,3):=by
       rw[<-hh,zAa,zAa,zAa,one];simp[hdr,goV,follows,vD]
      rw[this]at hbad;simp at hbad
     ·rw[if_neg hbad]
      have hbad':¬((Lib.decodeL (b::t)).1=65533/\(Lib.decodeL (b::t)).2=1):=by rw[<-AS];exact hbad
      have henc:=Lib.encode_decode (b::t) (by simp) hbad'
      rw[<-AS,<-Rk]at henc;rw[henc];have ih:=LT n ((b::t).drop (one (b::t)).2) (some (one (b::t)).1) hd (by simpa using h13)
      simp only[eA,isU]at ih
      have key:(List.take (one (b::t)).2 (b::t)++(zCa ci (i9 (some (one (b::t)).1) (dK (zBj (one (b::t)).2 (b::t))))).flatten=b::t)↔((zCa ci (i9 (some (one (b::t)).1) (dK (zBj (one (b::t)).2 (b::t))))).flatten=zBj (one (b::t)).2 (b::t)):=by
       constructor
       ·intro hh
        have h2:=hh.trans (zBg (one (b::t)).2 (b::t)).symm;exact List.append_cancel_left h2
       ·intro hh
        rw[hh];exact zBg _ _
      rw[key,ih];simp[h13,h00]
theorem S7(s:Str):right s=isU s:=by
 have:=LT s.length s none (zBi _) (by simp)
 unfold right dx;rw[Bool.eq_iff_iff,decide_eq_true_iff];exact this
theorem Xt(s:Str)(p:Nat)(h:p<s.length):wF s p=one (s.drop p):=by
 have:wF s p=Lib.decodeL (s.drop p):=by
  have:=Lib.decodeL_drop ⟨s.toArray⟩ p;simpa[wF]using this.symm
 rw[this];cases hs:s.drop p with
 |nil=>have:=congrArg List.length hs;simp at this;omega
 |cons b t=>rw[AS]
end Go.Abs.F
end
section
namespace Go.Abs.F
open Go.Proofs
def okR(r:Nat):Prop:=r<=1114111/\¬(55296<=r/\r<=57343)/\r≠0/\r≠13
def Rt(s:Str):Prop:=∃l:List Nat,(∀r∈l,okR r)/\s=eA l
theorem Ps(r:Nat)(l:List Nat):eA (r::l)=ci r++eA l:=by simp[eA]
theorem Iz(a b:List Nat):eA (a++b)=eA a++eA b:=by simp[eA]
theorem Rt.append{a b:Str}(h:Rt a)(h':Rt b):Rt (a++b):=by
 obtain⟨l,h1,rfl⟩:=h;obtain⟨m,h2,rfl⟩:=h';exact⟨l++m,fun r hr=>(zBb.1 hr).elim (h1 r) (h2 r),(Iz l m).symm⟩
theorem Uu{r:Nat}(h:r<128):ci r=[b8 r]:=by
 unfold ci;simp only;rw[if_neg (show ¬(1114111<r\/(55296<=r/\r<=57343)) by omega),if_pos h]
theorem Uv{r:Nat}(h:128<=r):2<=(ci r).length/\∀b∈ci r,128<=b.toNat:=by
 unfold ci;simp only;generalize hv:(if 1114111<r\/(55296<=r/\r<=57343)then 65533 else r)=v
 have hv1:128<=v/\v<=1114111:=by
  subst hv;split<;>omega
 rw[if_neg (by omega)]
 split
 ·have e1:(b8 (192+v/64)).toNat=192+v/64:=bf (by omega)
  have e2:(b8 (128+v%64)).toNat=128+v%64:=bf (by omega)
  refine⟨by simp,fun b hb=>?_⟩
  simp only[zAf,zAd,or_false]at hb;rcases hb with rfl|rfl<;>omega
 ·split
  ·have e1:(b8 (224+v/4096)).toNat=224+v/4096:=bf (by omega)
   have e2:(b8 (128+v/64%64)).toNat=128+v/64%64:=bf (by omega)
   have e3:(b8 (128+v%64)).toNat=128+v%64:=bf (by omega)
   refine⟨by simp,fun b hb=>?_⟩
   simp only[zAf,zAd,or_false]at hb;rcases hb with rfl|rfl|rfl<;>omega
  ·have e1:(b8 (240+v/262144)).toNat=240+v/262144:=bf (by omega)
   have e2:(b8 (128+v/4096%64)).toNat=128+v/4096%64:=bf (by omega)
   have e3:(b8 (128+v/64%64)).toNat=128+v/64%64:=bf (by omega)
   have e4:(b8 (128+v%64)).toNat=128+v%64:=bf (by omega)
   refine⟨by simp,fun b hb=>?_⟩
   simp only[zAf,zAd,or_false]at hb;rcases hb with rfl|rfl|rfl|rfl<;>omega
theorem Rj(r:Nat):0<(ci r).length:=by
 by_cases h:r<128
 ·rw[Uu h];simp
 ·have:=(Uv (r:=r) (by omega)).1
  omega
theorem iu{n:Nat}{b:UInt8}(h:b.toNat=128+n)(hn:n<64):follows b=true:=by simp[follows,h];omega
theorem PT{r:Nat}(h:okR r)(t:Str):one (ci r++t)=(r,(ci r).length):=by
 obtain⟨h1,h2,h3,h4⟩:=h;unfold ci;simp only;rw[if_neg (show ¬(1114111<r\/(55296<=r/\r<=57343)) by omega)]
 by_cases a:r<128
 ·rw[if_pos a]
  simp[one,bf (show r<256 by omega),a]
 ·rw[if_neg a]
  by_cases b:r<2048
  ·rw[if_pos b]
   have e1:(b8 (192+r/64)).toNat=192+r/64:=bf (by omega)
   have e2:(b8 (128+r%64)).toNat=128+r%64:=bf (by omega)
   have f2:=iu e2 (by omega)
   have hh:hdr (192+r/64)=(2,r/64,128):=by
    unfold hdr;rw[if_pos (by omega)]
    simp
   simp only[zAa,zBc,one,e1];rw[if_neg (by omega),hh]
   simp only;rw[if_neg (by simp)]
   have ev:64*(r/64)+(128+r%64)-128=r:=by omega
   simp only[zAb,zAe,goV,f2,e2,if_pos,ev,vD];rw[if_neg (by omega)]
   simp
  ·rw[if_neg b]
   by_cases c:r<65536
   ·rw[if_pos c]
    have e1:(b8 (224+r/4096)).toNat=224+r/4096:=bf (by omega)
    have e2:(b8 (128+r/64%64)).toNat=128+r/64%64:=bf (by omega)
    have e3:(b8 (128+r%64)).toNat=128+r%64:=bf (by omega)
    have f2:=iu e2 (by omega)
    have f3:=iu e3 (by omega)
    have hh:hdr (224+r/4096)=(3,r/4096,2048):=by
     unfold hdr;rw[if_neg (by omega),if_pos (by omega)]
     simp
    simp only[zAa,zBc,one,e1];rw[if_neg (by omega),hh]
    simp only;rw[if_neg (by simp)]
    have ev:64*(64*(r/4096)+(128+r/64%64)-128)+(128+r%64)-128=r:=by omega
    simp only[zAb,zAe,goV,f2,f3,e2,e3,if_pos,ev,vD];rw[if_neg (by omega)]
    simp
   ·rw[if_neg c]
    have e1:(b8 (240+r/262144)).toNat=240+r/262144:=bf (by omega)
    have e2:(b8 (128+r/4096%64)).toNat=128+r/4096%64:=bf (by omega)
    have e3:(b8 (128+r/64%64)).toNat=128+r/64%64:=bf (by omega)
    have e4:(b8 (128+r%64)).toNat=128+r%64:=bf (by omega)
    have f2:=iu e2 (by omega)
    have f3:=iu e3 (by omega)
    have f4:=iu e4 (by omega)
    have hh:hdr (240+r/262144)=(4,r/262144,65536):=by
     unfold hdr;rw[if_neg (by omega),if_neg (by omega),if_pos (by omega)]
     simp
    simp only[zAa,zBc,one,e1];rw[if_neg (by omega),hh]
    simp only;rw[if_neg (by simp)]
    have ev:64*(64*(64*(r/262144)+(128+r/4096%64)-128)+(128+r/64%64)-128)+(128+r%64)-128=r:=by omega
    simp only[zAb,zAe,goV,f2,f3,f4,e2,e3,e4,if_pos,ev,vD];rw[if_neg (by omega)]
    simp
theorem yS:∀l:List Nat,(∀r∈l,okR r)->dK (eA l)=l
 |[],_=>rfl
 |r::l,h=>by
   have h1:=PT (h r (by simp)) (eA l)
   have h2:=Rj r;have ih:=yS l (fun x hx=>h x (by simp[hx]))
   rw[Ps];cases hb:ci r with
   |nil=>rw[hb]at h2;simp at h2
   |cons b t=>
     rw[hb,zAa]at h1;rw[zAa,fU,h1];simp only[zAc,List.drop_succ_cons,List.drop_left,ih]
theorem Sh:∀(l:List Nat)(p:Option Nat),(∀r∈l,okR r)->p≠some 13->i9 p l=l
 |[],_,_,_=>rfl
 |r::l,p,h,hp=>by
   obtain⟨_,_,h3,h4⟩:=h r (by simp)
   simp only[i9];rw[if_neg (fun e=>hp e.2),if_neg h4,if_neg h3,Sh l (some r) (fun x hx=>h x (by simp[hx])) (by simpa using h4)]
   rfl
theorem Rt.right{s:Str}(h:Rt s):right s=true:=by
 obtain⟨l,h,rfl⟩:=h;simp only[F.right,decide_eq_true_eq,dx,yS l h,Sh l none h (by simp)]
theorem Ok:∀(l:List Nat)(p:Option Nat),(∀r∈l,r<=1114111/\¬(55296<=r/\r<=57343))->∀r∈i9 p l,okR r
 |[],p,_,r,hr=>by simp[i9]at hr
 |x::l,p,h,r,hr=>by
   simp only[i9,zBb]at hr;rcases hr with hr|hr
   ·have:=h x (by simp)
    split at hr
    ·cases hr
    ·simp at hr
     subst hr;unfold okR;split
     ·omega
     ·split<;>omega
   ·exact Ok l _ (fun y hy=>h y (by simp[hy])) r hr
theorem S9(s:Str):Rt (dx s):=⟨_,Ok _ _ (G2 s.length s (zBi _)),rfl⟩
theorem Ru(s:Str):Rt s↔right s=true:=by
 refine⟨Rt.right,fun h=>?_⟩;simp only[F.right,decide_eq_true_eq]at h;rw[<-h];exact S9 s
end Go.Abs.F
end
section
namespace Go.Abs.F
open Go.Proofs
attribute [-simp] getElem?_pos Option.not_isSome List.map_map
theorem rY{b:Bool}{n:Node}{l:List Node}(h:gK b (n::l)=0):d6 n b=0/\gK false n.kids=0/\gK (decide (n.kind=2)) l=0:=by
 simp only[gK,AV]at h;split at h
 ·rename_i h1
  split at h
  ·rename_i h2;exact⟨h1,h2,h⟩
  ·rename_i h2;exact(h2 h).elim
 ·rename_i h1;exact(h1 h).elim
theorem EG{b:Bool}{n:Node}{l:List Node}:gK b (n::l)=0↔d6 n b=0/\gK false n.kids=0/\gK (decide (n.kind=2)) l=0:=by
 refine⟨rY,fun⟨h1,h2,h3⟩=>?_⟩;simp only[gK,AV,h1,h2,h3,if_true]
def Bz:Bool->List Node->Prop
 |_,[]=>True
 |b,n::l=>¬(b=true/\n.kind=2)/\Bz (decide (n.kind=2)) l
theorem S8{a b:Str}(ha:right a=true)(hb:right b=true):right (a++b)=true:=(Ru _).1 (((Ru _).2 ha).append ((Ru _).2 hb))
structure PreOK (f:Node->Prop) (n:Node):Prop where
 txt:n.kind=2->n.name=[]/\n.attrs=[]/\n.kids=[]/\right n.text=true
 oth:n.kind≠2->d6 n false=0
 kids:gK false n.kids=0
 own:f n
def DL(f:Node->Prop)(n:Node):Prop:=d6 n false=0/\gK false n.kids=0/\f n
theorem Ht{n:Node}(hk:n.kind=2)(h1:n.name=[]/\n.attrs=[]/\n.kids=[])(h2:right n.text=true)(h3:n.text≠[]):d6 n false=0:=by
 unfold d6;rw[if_neg (by omega),if_pos (.inl hk),if_pos h1,if_pos ⟨h2,fun _=>⟨h3,rfl⟩⟩]
theorem sS{n:Node}{b:Bool}(hk:n.kind=2)(h:d6 n b=0):(n.name=[]/\n.attrs=[]/\n.kids=[])/\right n.text=true/\n.text≠[]:=by
 unfold d6 at h;rw[if_neg (by omega),if_pos (.inl hk)]at h
 split at h
 ·rename_i h1
  split at h
  ·rename_i h2
   exact⟨h1,h2.1,(h2.2 hk).1⟩
  ·cases h
 ·cases h
def xW:Bool->List Node->Bool
 |b,[]=>b
 |_,n::l=>xW (decide (n.kind=2)) l
theorem xM:∀(l:List Node)(b:Bool)(n:Node),Bz b (l++[n])↔Bz b l/\¬(xW b l=true/\n.kind=2)
 |[],b,n=>by simp[Bz,xW]
 |x::l,b,n=>by
   simp only[zAa,Bz,xW,xM l];exact⟨fun h=>⟨⟨h.1,h.2.1⟩,h.2.2⟩,fun h=>⟨h.1.1,h.1.2,h.2⟩⟩
theorem zf:∀(l:List Node)(b:Bool)(n:Node),xW b (l++[n])=decide (n.kind=2)
 |[],b,n=>rfl
 |x::l,b,n=>by simp only[zAa,xW];exact zf l _ n
theorem Ql{l:List Node}{o:Node}(h:l[l.length-1]?=some o):∃u,l=u++[o]:=by
 have hlt:=(zBe.1 h).1;have hne:l≠[]:=fun e=>by rw[e]at hlt;simp at hlt
 refine⟨l.dropLast,?_⟩
 have h6:l.getLast hne=o:=by
  rw[List.getLast_eq_getElem];exact(zBe.1 h).2
 rw[<-h6];exact(List.dropLast_concat_getLast hne).symm
theorem kR{f:Node->Prop}(hf:∀k n a t ks t',k=2->f ⟨k,n,a,t,ks⟩->f ⟨k,n,a,t',ks⟩):∀(l out:List Node),(∀n∈out,DL f n)->Bz false out->(∀n∈l,PreOK f n)->(∀n∈ax out l,DL f n)/\Bz false (ax out l)
 |[],out,h1,h2,_=>⟨h1,h2⟩
 |n::l,out,h1,h2,h3=>by
   have hn:=h3 n (by simp)
   have hl:∀m∈l,PreOK f m:=fun m hm=>h3 m (by simp[hm])
   simp only[ax];split
   ·exact kR hf l out h1 h2 hl
   ·rename_i hne
    have hpost:DL f n:=by
     refine⟨?_,hn.kids,hn.own⟩;by_cases hk:n.kind=2
     ·obtain⟨a,b,c,d⟩:=hn.txt hk
      exact Ht hk ⟨a,b,c⟩ d fun e=>hne ⟨hk,e⟩
     ·exact hn.oth hk
    split
    ·rename_i o ho
     obtain⟨u,hu⟩:=Ql ho;split
     ·rename_i hk
      have hop:=h1 o (List.mem_of_getElem? ho);obtain⟨a,b,c⟩:=sS hk.2 hop.1;obtain⟨a2,b2,c2,d2⟩:=hn.txt hk.1
      have hset:out.set (out.length-1) ⟨o.kind,o.name,o.attrs,o.text++n.text,o.kids⟩=u++[⟨o.kind,o.name,o.attrs,o.text++n.text,o.kids⟩]:=by
       rw[hu];simp
      rw[hset];rw[hu]at h1 h2;refine kR hf l _ (fun m hm=>?_) ?_ hl
      ·rcases zBb.1 hm with hm|hm
       ·exact h1 m (by simp[hm])
       ·simp only[zAf,zAd,or_false]at hm
        subst hm;refine⟨Ht hk.2 a (S8 b d2) (by simp[c]),hop.2.1,?_⟩
        have key:∀o:Node,o.kind=2->f o->∀t,f ⟨o.kind,o.name,o.attrs,t,o.kids⟩:=fun o hk h t=>by
         cases o;exact hf _ _ _ _ _ _ hk h
        exact key o hk.2 hop.2.2 _
      ·rw[xM]at h2⊢
       exact h2
     ·rename_i hk
      refine kR hf l _ (fun m hm=>?_) ?_ hl
      ·rcases zBb.1 hm with hm|hm
       ·exact h1 m hm
       ·simp only[zAf,zAd,or_false]at hm
        subst hm;exact hpost
      ·rw[xM]
       refine⟨h2,fun hc=>hk ⟨hc.2,?_⟩⟩;have:=hc.1;rw[hu,zf]at this;exact of_decide_eq_true this
    ·rename_i ho
     have hout:out=[]:=by
      cases out with
      |nil=>rfl
      |cons x r=>simp at ho
     subst hout;refine kR hf l _ (fun m hm=>?_) (by simp[Bz]) hl
     simp only[zBc,zAf,zAd,or_false]at hm;subst hm;exact hpost
theorem M8{f:Node->Prop}(hf:∀k n a t ks t',k=2->f ⟨k,n,a,t,ks⟩->f ⟨k,n,a,t',ks⟩)(l:List Node)(h:∀n∈l,PreOK f n):(∀n∈aW l,DL f n)/\Bz false (aW l):=
 kR hf l [] (fun n hn=>by cases hn) trivial h
theorem Wp{n:Node}{b:Bool}(h:d6 n false=0)(hb:¬(b=true/\n.kind=2)):d6 n b=0:=by
 by_cases hk:n.kind=2
 ·have:b=false:=by cases b;rfl;exact absurd ⟨rfl,hk⟩ hb
  rw[this];exact h
 ·unfold d6 at h⊢
  by_cases h1:n.kind=1
  ·rw[if_pos h1]at h⊢;exact h
  ·rw[if_neg h1]at h⊢
   split at h
   ·rename_i h2
    rw[if_pos h2];split at h
    ·rename_i h3
     rw[if_pos h3];split at h
     ·rename_i h4
      rw[if_pos ⟨h4.1,fun hk'=>absurd hk' hk⟩]
     ·cases h
    ·cases h
   ·cases h
theorem Jp:∀(l:List Node)(b:Bool),(∀n∈l,d6 n false=0/\gK false n.kids=0)->Bz b l->gK b l=0
 |[],b,_,_=>rfl
 |n::l,b,h,hj=>by
   rw[EG];obtain⟨h1,h2⟩:=h n (by simp)
   exact⟨Wp h1 hj.1,h2,Jp l _ (fun m hm=>h m (by simp[hm])) hj.2⟩
def nC(n:Node):Prop:=(n.kind=3->i5 gn n.text=false)/\n.kids.all (bn n.name)=true/\mO n.kids=true
def PR(par:Str)(n:Node):Prop:=(raw par=true->n.kind=2)/\(raw par=false->DO par=false->bn par n=true)
theorem Lu:∀l:List Node,(∀n∈l,nC n)->mO l=true
 |[],_=>rfl
 |n::l,h=>by
   obtain⟨h1,h2,h3⟩:=h n (by simp)
   simp only[mO,Lv,h2,h3,Lu l (fun m hm=>h m (by simp[hm])),Bool.and_true]
   by_cases hk:n.kind=3
   ·simp[hk,h1 hk]
   ·simp[hk]
theorem TW{par:Str}{n:Node}(hr:raw par=false){t:Str}:bn par ⟨n.kind,n.name,n.attrs,t,n.kids⟩=bn par n:=by
 simp[bn,hr]
theorem yf{par:Str}{n m:Node}(hr:raw par=false)(hk:m.kind=n.kind)(hn:m.name=n.name):bn par m=bn par n:=by
 simp[bn,hr,hk,hn]
theorem y6{f:Node->Bool}:∀(l:List Node)(b:Bool),(∀n∈l,f n=true)->l.filter f=l
 |[],b,_=>rfl
 |n::l,b,h=>by rw[List.filter_cons,if_pos (h n (by simp)),y6 l b fun m hm=>h m (by simp[hm])]
theorem LY(par:Str)(kids:List Node)(ih:∀n∈kids,∀m∈aA n,PreOK nC m/\m.kind=n.kind/\m.name=n.name/\(n.kind=2->m=n)):
 gK false (aq par (aW ((aq par kids).flatMap aA)))=0/\(aq par (aW ((aq par kids).flatMap aA))).all (bn par)=true/\mO (aq par (aW ((aq par kids).flatMap aA)))=true:=by
 have hpre:∀m∈(aq par kids).flatMap aA,PreOK (fun m=>nC m/\PR par m) m:=fun m hm=>by
  obtain⟨n,hn,hm⟩:=List.mem_flatMap.1 hm;have hnf:=zBf.1 hn;obtain⟨h1,h2,h3,h4⟩:=ih n hnf.1 m hm;refine⟨h1.txt,h1.oth,h1.kids,h1.own,fun hr=>?_,fun hr hv=>?_⟩
  ·have:=hnf.2
   unfold bn at this;rw[hr]at this;split at this
   ·cases this
   ·simp at this
    rw[h2];exact this.1
  ·rw[yf hr h2 h3];exact hnf.2
 obtain⟨k1,k2⟩:=M8 (f:=fun m=>nC m/\PR par m) (fun k n a t ks t' hk h=>⟨⟨fun h3=>by simp only at h3;omega,h.1.2⟩,h.2.1,fun hr hv=>(TW (n:=⟨k,n,a,t,ks⟩) hr).trans (h.2.2 hr hv)⟩) _ hpre
 generalize aW ((aq par kids).flatMap aA)=K at *;have hmem:∀n∈aq par K,DL (fun m=>nC m/\PR par m) n:=fun n hn=>k1 n (zBf.1 hn).1;refine⟨?_,?_,Lu _ fun n hn=>(hmem n hn).2.2.1⟩
 ·refine Jp _ _ (fun n hn=>⟨(hmem n hn).1,(hmem n hn).2.1⟩) ?_
  cases hr:raw par
  ·cases hv:DO par
   ·have:aq par K=K:=y6 K false fun n hn=>(k1 n hn).2.2.2.2 hr hv
    rw[this];exact k2
   ·have:aq par K=[]:=by
     refine List.filter_eq_nil_iff.2 fun n hn=>?_;simp[bn,hv]
    rw[this];trivial
  ·have hK:K.length<=1:=by
    match K,k1,k2 with
    |[],_,_=>simp
    |[_],_,_=>simp
    |x::y::r,k1,k2=>
      exfalso;have h1:=(k1 x (by simp)).2.2.2.1 hr
      have h2:=(k1 y (by simp)).2.2.2.1 hr
      exact k2.2.1 ⟨by simp[h1],h2⟩
   have hl:(aq par K).length<=1:=Nat.le_trans (List.length_filter_le _ _) hK
   match aq par K,hl with
   |[],_=>trivial
   |[z],_=>simp[Bz]
   |_::_::_,h=>simp at h
 ·rw[List.all_eq_true]
  exact fun n hn=>(zBf.1 hn).2
end Go.Abs.F
end
