/- Sets of states, plainly: as eight words of 64 bits. No condition. -/
import Derived.Test.YtbekkicfbnaaaaaGreatDoorVTh3
import Derived.Lib.TrailingZeros
import Derived.Laws.Bits64b
import Derived.Lib.Bytealg
set_option linter.all false open List renaming reduceReplicate→zAa,mem_of_getElem?→zAb,take_of_length_le→zAc,replicate→zAd,drop_of_length_le→zAf,getElem?_map→zAg,getElem?_eq_getElem→zAh,getElem?_eq_some_iff→zAi,take→zAj,map_set→zBa,getElem?_drop→zBb,getElem?_take→zBc,foldl_cons→zBd,getElem?_append_right→zBe,drop_eq_getElem_cons→zBf,mem_of_mem_take→zBg,drop→zBh,getElem?_set_self→zBj,getElem?_zipWith→zCa,getElem?_eq_none→zCb,getElem?_set_ne→zCc,mem_of_mem_drop→zCe,mem_replicate→zCg,foldl_nil→zCi,mem_cons→zDa,ext_getElem?→zDb,mem_or_eq_of_mem_set→zDe,getElem?_append_left→zDf,range'→zDi,mem_iff_getElem?→zDj,set_append_right→zEa,length_replicate→zEb,map_map→zEe,range'_succ→zEj,not_mem_nil→zFa,length→zFd
open Nat renaming lt_or_ge→zAe,testBit_two_pow→zBi,mod_eq_of_lt→zCh,testBit_two_pow_mul_add→zCj,testBit_and→zDh,pow_lt_pow_right→zEc,eq_of_testBit_eq→zEd,zero_add→zEf,zero_testBit→zEh,testBit_or→zFc
open BitVec renaming ofInt_natCast→zCd,toNat_ofNat→zCf,ofInt→zDg
open Option renaming not_isSome→zDc
open Option.some renaming injEq→zDd
open UInt8 renaming ofNat→zEg
open Bool renaming and_eq_true→zEi,or_eq_true→zFb open Option renaming some→ś open Bool renaming true→ť,false→ğ open Go.Proofs.Tryz renaming prog→ŷ
section
namespace Go.Aut
structure wOK (s:List Nat):Prop where
 len:s.length=8
 lt:∀w∈s,w<18446744073709551616
def eK:List Nat:=[0,0,0,0,0,0,0,0]
def bB(s:List Nat)(q:Nat):Bool:=(bh s (q/64)).testBit (q%64)
def orW(s t:List Nat):List Nat:=List.zipWith (λa b=>a ||| b) s t
def Ig(s:List Nat)(q:Nat):List Nat:=s.set (q/64) (bh s (q/64) ||| 2^(q%64))
def Q5(l:List Nat):List Nat:=l.foldl Ig eK
theorem oq:wOK eK:=⟨rfl,λw hw=>by simp[eK]at hw;omega⟩
theorem EQ(q):bB eK q=false:=by
 have h0:∀i,bh eK i=0:=λi=>by
  unfold bh eK
  grind
 rw[bB,h0,zEh]
theorem tv{s}(h:wOK s){i}(hi:i<8):s[i]?=ś (bh s i)/\bh s i<18446744073709551616:=by
 obtain⟨x,hx⟩:∃x,s[i]?=ś x:=⟨_,zAh (by rw[h.len];exact hi)⟩
 have:bh s i=x:=by simp[bh,hx]
 rw[this];exact⟨hx,h.lt x (zAb hx)⟩
theorem ot{j}(h:j<64):2^j<18446744073709551616:=by
 have:2^j<2^64:=zEc (by decide) h
 simpa using this
theorem aaG{a b}(ha:a<18446744073709551616)(hb:b<18446744073709551616):a ||| b<18446744073709551616:=by
 have:a ||| b<2^64:=Nat.or_lt_two_pow (by simpa using ha) (by simpa using hb)
 simpa using this
theorem wOK.or{s t}(hs:wOK s)(ht:wOK t):wOK (orW s t):=by
 refine⟨by simp[orW,hs.len,ht.len],λw hw=>?_⟩
 obtain⟨i,hi⟩:=zDj.1 hw;simp only[orW,zCa]at hi;cases h1:s[i]? with
 |none=>simp[h1]at hi
 |some a=>cases h2:t[i]? with
   |none=>simp[h2]at hi
   |some b=>
     simp[h1,h2]at hi;rw[<-hi];exact aaG (hs.lt a (zAb h1)) (ht.lt b (zAb h2))
theorem aiH{s t}(hs:wOK s)(ht:wOK t){i}(hi:i<8):bh (orW s t) i=bh s i ||| bh t i:=by
 grind[tv,bh,orW]
theorem aa1{s t}(hs:wOK s)(ht:wOK t){q}(hq:q<512):bB (orW s t) q=(bB s q||bB t q):=by
 grind[bB,aiH]
theorem wOK.add{s}(hs:wOK s){q}(hq:q<512):wOK (Ig s q):=by
 refine⟨by simp[Ig,hs.len],λw hw=>?_⟩
 rcases zDe hw with h|rfl
 ·exact hs.lt w h
 ·exact aaG (tv hs (by omega)).2 (ot (by omega))
theorem afJ{s}(hs:wOK s){q p}(hq:q<512)(hp:p<512):bB (Ig s q) p=(bB s p||decide (p=q)):=by
 simp only[bB,Ig];by_cases h:p/64=q/64
 ·rw[h]
  have:bh (s.set (q/64) (bh s (q/64) ||| 2^(q%64))) (q/64)=bh s (q/64) ||| 2^(q%64):=by
   unfold bh;rw[zBj (by rw[hs.len];omega)]
   rfl
  grind
 ·have:bh (s.set (q/64) (bh s (q/64) ||| 2^(q%64))) (p/64)=bh s (p/64):=by
   grind[bh,zCc]
  grind
theorem Eh:∀(l:List Nat)(s:List Nat),wOK s->(∀q∈l,q<512)->wOK (l.foldl Ig s)/\∀p<512,bB (l.foldl Ig s) p=(bB s p||decide (p∈l))
 |[],s,hs,_=>⟨hs,by simp⟩
 |q::l,s,hs,hl=>by
   have hq:=hl q (by simp)
   obtain⟨h1,h2⟩:=Eh l (Ig s q) (hs.add hq) λq hq=>hl q (by simp[hq])
   refine⟨h1,λp hp=>?_⟩;rw[zBd,h2 p hp,afJ hs hq hp];simp[Bool.or_assoc]
theorem aam{l}(hl:∀q∈l,q<512):wOK (Q5 l):=(Eh l eK oq hl).1
theorem afI{l}(hl:∀q∈l,q<512){p}(hp:p<512):bB (Q5 l) p=decide (p∈l):=by
 rw[Q5,(Eh l eK oq hl).2 p hp,EQ,Bool.false_or]
theorem aan{s t}(hs:wOK s)(ht:wOK t)(h:∀q<512,bB s q=bB t q):s=t:=by
 refine zDb λi=>?_;rcases zAe i 8 with hi|hi
 ·obtain⟨h1,h1l⟩:=tv hs hi
  obtain⟨h2,h2l⟩:=tv ht hi;rw[h1,h2];congr 1;refine zEd λj=>?_;rcases zAe j 64 with hj|hj
  ·have:=h (64*i+j) (by omega)
   simp only[bB]at this;grind
  ·have e:∀x,x<18446744073709551616->x.testBit j=false:=λx hx=>by
    refine Nat.testBit_lt_two_pow ?_;have:2^64<=2^j:=Nat.pow_le_pow_right (by decide) hj
    omega
   rw[e _ h1l,e _ h2l]
 ·rw[zCb (by rw[hs.len];exact hi),zCb (by rw[ht.len];exact hi)]
def tz(w:Nat):Nat:=Go.Lib.ctz 64 w
theorem aap{w}(h0:w≠0)(h:w<18446744073709551616):tz w<64/\w.testBit (tz w)=ť/\∀j,(w &&& (w-1)).testBit j=(w.testBit j&&decide (j≠tz w)):=by
 obtain⟨m,hm,hk⟩:=Go.Lib.ctzFrom_spec 64 w (by omega) (by simpa using h)
 have e:tz w=Go.Lib.ctzFrom 64 w:=by grind[tz,Go.Lib.ctz]
 rw[<-e]at hm hk;obtain⟨k,hkk⟩:∃k,k=tz w:=⟨_,rfl⟩;rw[<-hkk]at hm hk⊢;have hpos:0<2^k:=Nat.two_pow_pos k;have e1:w=2^(k+1)*m+2^k:=by grind
 have e2:w-1=2^(k+1)*m+(2^k-1):=by omega
 have hlt:2^k<2^(k+1):=zEc (by decide) (by omega)
 have t1:∀j,w.testBit j=if j<k+1 then(2^k).testBit j else m.testBit (j-(k+1)):=λj=>by rw[e1,zCj _ hlt]
 have t2:∀j,(w-1).testBit j=if j<k+1 then(2^k-1).testBit j else m.testBit (j-(k+1)):=λj=>by rw[e2,zCj _ (by omega)]
 grind
theorem G2{w}(h0:w≠0):w &&& (w-1)<w:=by
 grind[Nat.and_le_right]
def pN(f:Nat->List Nat):Nat->Nat->List Nat->List Nat
 |0,_,out=>out
 |fu+1,w,out=>if w=0 then out else pN f fu (w &&& (w-1)) (orW out (f (tz w)))
theorem xR{f}(hf:∀j<64,wOK (f j)):∀(fu w:Nat)(out:List Nat),wOK out->w<18446744073709551616->w<=fu->
 wOK (pN f fu w out)/\∀q<512,bB (pN f fu w out) q=ť↔(bB out q=ť\/∃j<64,w.testBit j=ť/\bB (f j) q=ť)
 |0,w,out,ho,_,hw=>by
   grind[pN]
 |fu+1,w,out,ho,hlt,hw=>by
   simp only[pN];by_cases h0:w=0
   ·simp_all
   ·rw[if_neg h0]
    obtain⟨h1,h2,h3⟩:=aap h0 hlt;have hl:=G2 h0;obtain⟨g1,g2⟩:=xR hf fu (w &&& (w-1)) (orW out (f (tz w))) (ho.or (hf _ h1)) (by omega) (by omega)
    refine⟨g1,λq hq=>?_⟩;rw[g2 q hq,aa1 ho (hf _ h1) hq,zFb,or_assoc];grind
def vU(f:Nat->List Nat):Nat->List Nat->List Nat->List Nat
 |_,[],out=>out
 |i,w::s,out=>vU f (i+1) s (pN (λj=>f (64*i+j)) (w+1) w out)
def ofW(f:Nat->List Nat)(s:List Nat):List Nat:=vU f 0 s eK
theorem Ji{f full}(hfull:wOK full)(hf:∀q<512,wOK (f q)):∀(s:List Nat)(i:Nat)(out:List Nat),full.drop i=s->wOK out->
 wOK (vU f i s out)/\∀q<512,bB (vU f i s out) q=ť↔(bB out q=ť\/∃p<512,64*i<=p/\bB full p=ť/\bB (f p) q=ť)
 |[],i,out,hd,ho=>by
   have hi:8<=i:=by have:=congrArg zFd hd;simp[hfull.len]at this;omega
   grind[vU]
 |w::s,i,out,hd,ho=>by
   have hi:i<8:=by
    rcases zAe i 8 with h|h
    ·exact h
    ·rw[zAf (by rw[hfull.len];exact h)]at hd;cases hd
   have hil:i<full.length:=by rw[hfull.len];exact hi
   have hw:full[i]?=ś w:=by
    grind[zBf,zAh]
   have hd':full.drop (i+1)=s:=by
    grind[zBf]
   have hwl:=hfull.lt w (zAb hw);have hgw:bh full i=w:=by simp[bh,hw]
   obtain⟨g1,g2⟩:=xR (f:=λj=>f (64*i+j)) (λj hj=>hf _ (by omega)) (w+1) w out ho hwl (by omega)
   obtain⟨h1,h2⟩:=Ji hfull hf s (i+1) _ hd' g1;refine⟨h1,λq hq=>?_⟩;simp only[vU];rw[h2 q hq,g2 q hq,or_assoc];refine or_congr_right ?_;constructor
   ·rintro(⟨j,hj,hb,hh⟩|⟨p,hp,hpi,hh⟩)
    ·exact⟨64*i+j,by omega,by omega,by rw[bB,show(64*i+j)/64=i by omega,show(64*i+j)%64=j by omega,hgw];exact hb,hh⟩
    grind
   ·rintro⟨p,hp,hpi,hb,hh⟩
    rcases zAe p (64*(i+1))with hlt|hge
    ·refine .inl ⟨p%64,by omega,?_,?_⟩
     ·rw[bB,show p/64=i by omega,hgw]at hb;exact hb
     grind
    grind
theorem vT{f s}(hs:wOK s)(hf:∀q<512,wOK (f q)):wOK (ofW f s)/\∀q<512,bB (ofW f s) q=ť↔∃p<512,bB s p=ť/\bB (f p) q=true:=by
 obtain⟨h1,h2⟩:=Ji hs hf s 0 eK rfl oq;grind[ofW,EQ]
end Go.Aut
end
section
set_option maxHeartbeats 1000000
set_option maxRecDepth 100000
namespace Go.Abs
open Go.Proofs Go.Aut
attribute [-simp] getElem?_pos zDc zEe
theorem Ih{n}(h1:0<=n)(h2:n<=18446744073709551615):IntKind.u64.wrap n=n:=by
 grind[Go.IntKind.wrap_u64]
theorem XO{a b:Nat}(ha:a<18446744073709551616)(hb:b<18446744073709551616):yZ .and .u64 (a:Int) (b:Int)=ś (.int .u64 ((a &&& b:Nat):Int)):=by
 have h1:(zDg 64 (a:Int)).toNat=a:=by simp_all
 have h2:(zDg 64 (b:Int)).toNat=b:=by simp_all
 have h3:a &&& b<=a:=Nat.and_le_left;simp only[yZ];rw[show IntKind.u64.bits=64 from rfl,BitVec.toNat_and,h1,h2,Ih (by omega) (by omega)]
theorem aeh{a b:Nat}(ha:a<18446744073709551616)(hb:b<18446744073709551616):yZ .or .u64 (a:Int) (b:Int)=ś (.int .u64 ((a ||| b:Nat):Int)):=by
 have h1:(zDg 64 (a:Int)).toNat=a:=by simp_all
 have h2:(zDg 64 (b:Int)).toNat=b:=by simp_all
 have h3:=aaG ha hb;simp only[yZ];rw[show IntKind.u64.bits=64 from rfl,BitVec.toNat_or,h1,h2,Ih (by omega) (by omega)]
theorem aef{j:Nat}(hj:j<64):Az .shl .u64 1 (j:Int)=ś (.int .u64 ((2^j:Nat):Int)):=by
 have h:=ot hj;have hp:(2:Int)^j=((2^j:Nat):Int):=by simp
 simp only[Az];rw[if_neg (by omega),show IntKind.u64.bits=64 from rfl,show min (j:Int).toNat 64=j by omega,hp,Int.one_mul]
 obtain⟨P,hP⟩:∃P,P=2^j:=⟨_,rfl⟩;grind[Ih]
theorem FG:zAd 8 (V.int .u64 0)=eK.map aV:=rfl
theorem tE{w}(h0:w≠0)(h:w<18446744073709551616):Fn ŷ nn [aV w] (nV (tz w)):=by
 refine yoA nD ?_;obtain⟨hlow,hk⟩:=Go.Lib.lowest_bit 64 w h0 (by simpa using h)
 obtain⟨hi,htab⟩:=Go.Lib.deBruijn64_at _ hk;have hpl:=ot hk;obtain⟨k,hkk⟩:∃k,k=Go.Lib.ctz 64 w:=⟨_,rfl⟩;have htz:tz w=k:=by rw[hkk];rfl
 rw[<-hkk]at hlow hk hi htab hpl;obtain⟨P,hP⟩:∃P,P=2^k:=⟨_,rfl⟩;rw[<-hP]at hlow hi htab hpl;obtain⟨X,hX⟩:∃X,X=P*285870213051353865%18446744073709551616:=⟨_,rfl⟩;rw[<-hX]at hi htab;obtain⟨idx,hidx⟩:∃idx,idx=X/288230376151711744:=⟨_,rfl⟩;rw[<-hidx]at hi htab
 have e1:vun .neg (.int .u64 (w:Int))=ś (.int .u64 ((18446744073709551616-w:Nat):Int)):=by
  grind[vun,Go.IntKind.wrap_u64]
 have e2:yZ .and .u64 (w:Int) ((18446744073709551616-w:Nat):Int)=ś (.int .u64 (P:Int)):=by
  rw[XO h (by omega)]
  simp_all
 have e3:dx .mul .u64 (P:Int) 285870213051353865=ś (.int .u64 (X:Int)):=by
  grind[dx,Go.IntKind.wrap_u64]
 have e4:Az .shr .u64 (X:Int) 58=ś (.int .u64 (idx:Int)):=by
  rw[hidx];simp only[Az];rw[if_neg (by omega),show min (Int.toNat 58) IntKind.u64.bits=58 from rfl,Int.fdiv_eq_ediv_of_nonneg _ (by decide)]
  congr 2
 have hw:¬w=0:=h0
 have hcut:zAj 1 (zBh idx (Go.Lib.deBruijn64tab.map u8V))=[u8V k]:=by
  have hl:idx<Go.Lib.deBruijn64tab.length:=by grind[Go.Lib.deBruijn64tab]
  grind[Go.Lib.deBruijn64tab,idx,zAh,u8V,zBf,zDd]
 simp[Go.Lib.deBruijn64tab]at hcut;unfold aV;simp(disch:=omega) [e1,e2,e3,e4,hcut,htz]
theorem dm{l j}{v:V}(h:l[j]?=ś v):zAj 1 (zBh j l)=[v]:=by
 grind[zAi,zBf]
theorem oz{l j}{v:V}(h:j<l.length):zAj j l++v::zBh (j+1) l=l.set j v:=by
 rw[List.set_eq_take_append_cons_drop,if_pos h]
theorem GC(l)(hl:∀q∈l,q<512)(hll:l.length<=1000000):Fn ŷ Vu [di l] (.strct ((Q5 l).map aV)):=by
 refine yoA V6 ?_;obtain⟨R,hR⟩:∃R,R=Q5 l:=⟨_,rfl⟩;rw[<-hR];have hRl:R.length=8:=by rw[hR];exact(aam hl).len
 simp
 refine ah (λ(x:Nat×List Nat)=>⟨[(2,.ptr 0 0),(3,.ptr 1 0),(6,di l),(7,.int .i64 l.length),(8,nV x.1)],[ś (.box (eK.map aV)),ś (.box (x.2.map aV))]⟩)
  (λx=>x.1<=l.length/\wOK x.2/\(l.drop x.1).foldl Ig x.2=R) (λx=>l.length-x.1) [] _ (0,eK) rfl (by simp[FG]) ⟨by simp,oq,by simp[hR,Q5]⟩ ?_
 rintro⟨k,s⟩ ⟨hk,hs,hi⟩ N hN;simp only at hk hs hi;have hsl:=hs.len;rcases place l k hk with⟨he,hd⟩|⟨hlt,q,hx,hd⟩<;>rw[hd]at hi
 ·simp_all[zCi,zAj,aV,zAc,zAa,eK]
 ·have hq:=hl q (zAb hx)
  have e1:((q:Int)/64).toNat=q/64:=by omega
  have hj:=aef (j:=q%64) (by omega)
  rw[show((q%64:Nat):Int)=(q:Int)%64 by omega]at hj
  have hw:=tv hs (i:=q/64) (by omega)
  have hor:=aeh hw.2 (ot (j:=q%64) (by omega))
  have ha:Ig s q=s.set (q/64) (bh s (q/64) ||| 2^(q%64)):=rfl;have haok:=hs.add hq;obtain⟨i,hii⟩:∃i,i=q/64:=⟨_,rfl⟩;obtain⟨P,hP⟩:∃P,P=2^(q%64):=⟨_,rfl⟩;obtain⟨w,hww⟩:∃w,w=bh s (q/64):=⟨_,rfl⟩;have hi8:i<8:=by omega
  rw[<-hP]at hj hor ha;rw[<-hww,<-hii]at hw;rw[<-hww]at hor ha;rw[<-hii]at e1 ha;obtain⟨v,hv⟩:∃v,v=w ||| P:=⟨_,rfl⟩;rw[<-hv]at hor ha;have hc:=dm (l:=s.map aV) (j:=i) (v:=.int .u64 w) (by rw[zAg,hw.1];rfl)
  have hsp:=oz (l:=s.map aV) (j:=i) (v:=.int .u64 v) (by simp;omega)
  have hset:(s.map aV).set i (.int .u64 v)=(Ig s q).map aV:=by rw[ha,zBa];rfl
  rw[hset]at hsp;rw[zBd]at hi;replace hi:=hid hi;simp(disch:=omega) [hx,e1,hj,hor,hc,hsp];exact hN.out _<|Nx.mk (k+1,Ig s q) (by simp) ⟨by simp only;omega,haok,hi.out⟩ (by simp only;omega)
theorem ac2(s)(hs:wOK s)(q)(hq:q<512):Fn ŷ MN [.strct (s.map aV),nV q] (.bool (bB s q)):=by
 refine yoA NC ?_;have hsl:=hs.len;have e1:((q:Int)/64).toNat=q/64:=by omega
 have hj:=aef (j:=q%64) (by omega)
 rw[show((q%64:Nat):Int)=(q:Int)%64 by omega]at hj
 have hw:=tv hs (i:=q/64) (by omega)
 have hand:=XO hw.2 (ot (j:=q%64) (by omega))
 have hres:(bh s (q/64) &&& 2^(q%64)=0)=(bB s q=ğ):=by
  rw[bB,eq_iff_iff];constructor
  ·intro h
   have:=congrArg (λx=>x.testBit (q%64)) h;grind
  ·intro h
   refine zEd λk=>?_;grind
 obtain⟨i,hii⟩:∃i,i=q/64:=⟨_,rfl⟩;obtain⟨P,hP⟩:∃P,P=2^(q%64):=⟨_,rfl⟩;obtain⟨w,hww⟩:∃w,w=bh s (q/64):=⟨_,rfl⟩;have hi8:i<8:=by omega
 rw[<-hP]at hj hand hres;rw[<-hww,<-hii]at hw;rw[<-hww]at hand hres;rw[<-hii]at e1;obtain⟨v,hv⟩:∃v,v=w &&& P:=⟨_,rfl⟩;rw[<-hv]at hand hres;have hc:=dm (l:=s.map aV) (j:=i) (v:=.int .u64 w) (by rw[zAg,hw.1];rfl)
 simp(disch:=omega) [e1,hj,hand,hc];simp_all
def eY(k off:Nat)(r t:List Nat):List Nat:=r.take off++((orW ((r.drop off).take 8) t).take k++r.drop (off+k))
section
variable {k off:Nat}{r t:List Nat}(hr:off+8<=r.length)(ht:t.length=8)
include hr ht
theorem Ce:(orW ((r.drop off).take 8) t).length=8:=by simp[orW,ht];omega
theorem JI(hk:k<=8):(eY k off r t).length=r.length:=by
 grind[Ce,eY]
theorem PR:eY 0 off r t=r:=by simp[eY]
theorem Vz(hk:k<8):(eY k off r t)[off+k]?=r[off+k]?:=by
 have:=Ce hr ht;rw[eY,zBe (by simp;omega),zBe (by simp[this];omega),zBb]
 grind
theorem PT(hk:k<8){a b}(ha:r[off+k]?=ś a)(hb:t[k]?=ś b):(eY k off r t).set (off+k) (a ||| b)=eY (k+1) off r t:=by
 have h8:=Ce hr ht;have hd:r.drop (off+k)=a::r.drop (off+(k+1)):=by rw[r5 ha];rfl
 have ho:(orW ((r.drop off).take 8) t)[k]?=ś (a ||| b):=by
  simp_all[orW,zCa,zBc,zBb,if_pos]
 rw[eY,eY,hd,bk ho,zEa _ _ (by simp;omega),zEa _ _ (by simp[h8];omega)]
 simp only[List.append_assoc,List.cons_append,List.nil_append];congr 2;have:off+k-(r.take off).length-((orW ((r.drop off).take 8) t).take k).length=0:=by simp[h8];omega
 rw[this];rfl
end
theorem acj{s t}(hs:s.length=8)(ht:t.length=8):eY 8 0 s t=orW s t:=by
 grind[zAc,zAf,orW,eY]
theorem TI(s t row:List Nat)(off)(hs:wOK s)(ht:wOK t)(hrow:(row.drop off).take 8=t):FnH ŷ ud [0,1] [.ptr 0 0,.sptr (.strct (row.map aV)) off] [ś (.box (s.map aV))] (.tup []) [ś (.box ((orW s t).map aV))]:=by
 refine yoH ul ?_;have hsl:=hs.len;have htl:=ht.len;have hrl:off+8<=row.length:=by grind
 simp;refine ah (λk:Nat=>⟨[(0,.ptr 0 0),(1,.sptr (.strct (row.map aV)) off),(6,.sptr (.strct (row.map aV)) off),(7,nV k)],[ś (.box ((eY k 0 s t).map aV))]⟩) (λk=>k<=8) (λk=>8-k) [] _ 0 rfl (by simp_all[PR]) (by simp) ?_
 intro k hk N hN;rcases zAe k 8 with hk8|hk8
 ·obtain⟨a,ha⟩:=av (l:=s) (k:=k) (by omega)
  obtain⟨b,hb⟩:=av (l:=t) (k:=k) (by omega)
  have hal:=hs.lt a (zAb ha);have hbl:=ht.lt b (zAb hb)
  have hrb:row[off+k]?=ś b:=by
   grind
  have hml:=JI (k:=k) (r:=s) (t:=t) (off:=0) (by omega) htl (by omega)
  have hmg:=Vz (k:=k) (r:=s) (t:=t) (off:=0) (by omega) htl hk8
  rw[zEf,ha]at hmg;have hst:=PT (k:=k) (r:=s) (t:=t) (off:=0) (by omega) htl hk8 (a:=a) (b:=b) (by rw[zEf];exact ha) hb
  rw[zEf]at hst;have hor:=aeh hal hbl;obtain⟨v,hv⟩:∃v,v=a ||| b:=⟨_,rfl⟩;rw[<-hv]at hst hor;have hc1:=dm (l:=row.map aV) (j:=off+k) (v:=.int .u64 b) (by rw[zAg,hrb];rfl)
  have hc2:=dm (l:=(eY k 0 s t).map aV) (j:=k) (v:=.int .u64 a) (by rw[zAg,hmg];rfl)
  have hsp:=oz (l:=(eY k 0 s t).map aV) (j:=k) (v:=.int .u64 v) (by simp;omega)
  rw[show((eY k 0 s t).map aV).set k (.int .u64 v)=(eY (k+1) 0 s t).map aV by rw[<-hst,zBa];rfl]at hsp
  have hlt2:off+k<row.length:=by omega
  simp(disch:=omega) [hc1,hc2,hsp,hor];exact hN.out _<|Nx.mk (k+1) (by simp) (by omega) (by omega)
 ·have:k=8:=by omega
  simp_all[acj,zAa]
theorem TH(e1 e2)(rows:List (List Nat))(sets:List (List Nat))(i j off)(r t)(hri:rows[i]?=ś r)(hsj:sets[j]?=ś t)(hrw:∀w∈r,w<18446744073709551616)(hrl:r.length=760)(hoff:off+8<=760)(ht:wOK t):
 FnH ŷ ud [0,1] [.eptr 0 rows.length i off,.eptr 1 sets.length j 0] [ś (.arr e1 760 (rows.map λr=>.strct (r.map aV))),ś (.arr e2 8 (sets.map λr=>.strct (r.map aV)))] (.tup []) [ś (.arr e1 760 ((rows.set i (eY 8 off r t)).map λr=>.strct (r.map aV))),ś (.arr e2 8 (sets.map λr=>.strct (r.map aV)))]:=by
 refine yoH ul ?_;have htl:=ht.len;have hil:=(zAi.1 hri).1;have hjl:=(zAi.1 hsj).1;obtain⟨n,hn⟩:∃n,n=rows.length:=⟨_,rfl⟩
 have hset0:rows.set i r=rows:=by
  refine zDb λk=>?_;grind
 obtain⟨sv,hsv⟩:∃sv:List V,sv=sets.map λr=>V.strct (r.map aV):=⟨_,rfl⟩;have hsvl:sv.length=sets.length:=by simp[hsv]
 have hsvj:sv[j]?=ś (.strct (t.map aV)):=by simp[hsv,hsj]
 rw[<-hsv];clear hsv hsj;simp;refine ah (λk:Nat=>⟨[(0,.eptr 0 rows.length i off),(1,.eptr 1 sets.length j 0),(6,.eptr 1 sets.length j 0),(7,nV k)],[ś (.arr e1 760 ((rows.set i (eY k off r t)).map λr=>.strct (r.map aV))),ś (.arr e2 8 sv)]⟩) (λk=>k<=8) (λk=>8-k) [] _ 0 rfl (by simp_all[PR]) (by simp) ?_
 intro k hk N hN;rcases zAe k 8 with hk8|hk8
 ·obtain⟨a,ha⟩:=av (l:=r) (k:=off+k) (by omega)
  obtain⟨b,hb⟩:=av (l:=t) (k:=k) (by omega)
  have hal:=hrw a (zAb ha);have hbl:=ht.lt b (zAb hb);have hml:=JI (k:=k) (r:=r) (t:=t) (off:=off) (by omega) htl (by omega)
  have hmg:=Vz (k:=k) (r:=r) (t:=t) (off:=off) (by omega) htl hk8
  rw[ha]at hmg;have hst:=PT (k:=k) (r:=r) (t:=t) (off:=off) (by omega) htl hk8 (a:=a) (b:=b) ha hb
  have hor:=aeh hal hbl;obtain⟨v,hv⟩:∃v,v=a ||| b:=⟨_,rfl⟩;rw[<-hv]at hst hor;have hc1:=dm (l:=t.map aV) (j:=k) (v:=.int .u64 b) (by rw[zAg,hb];rfl)
  have hc2:=dm (l:=(eY k off r t).map aV) (j:=off+k) (v:=.int .u64 a) (by rw[zAg,hmg];rfl)
  have hsp:=oz (l:=(eY k off r t).map aV) (j:=off+k) (v:=.int .u64 v) (by simp;omega)
  rw[show((eY k off r t).map aV).set (off+k) (.int .u64 v)=(eY (k+1) off r t).map aV by rw[<-hst,zBa];rfl]at hsp
  obtain⟨rv,hrv⟩:∃rv:List V,rv=(rows.set i (eY k off r t)).map λr=>V.strct (r.map aV):=⟨_,rfl⟩;have hrvl:rv.length=rows.length:=by simp[hrv]
  have hrvi:rv[i]?=ś (.strct ((eY k off r t).map aV)):=by simp[hrv,hil]
  have hrs:rv.set i (.strct ((eY (k+1) off r t).map aV))=(rows.set i (eY (k+1) off r t)).map λr=>V.strct (r.map aV):=by
   simp_all
  rw[<-hrv];have hol:off+k<760:=by omega
  simp(disch:=omega) [hc1,hc2,hsp,hor,hrvi,hsvj];exact hN.out _<|Nx.mk (k+1) (by rw[hrs];simp) (by omega) (by omega)
 ·have:k=8:=by omega
  simp_all
def bL(r:List Nat):V:=.strct (r.map aV)
def dh(t:List (List Nat)):V:=.seq 760 (t.map bL)
def ct(t:List (List Nat))(sign q:Nat):List Nat:=match t[q]? with
 |some r=>(r.drop (8*sign)).take 8
 |none=>eK
structure stepsOK (t:List (List Nat)):Prop where
 len:t.length<=512
 rows:∀r∈t,r.length=760/\∀w∈r,w<18446744073709551616
theorem stepsOK.set{t}(h:stepsOK t){sign}(hs:sign<95)(q):wOK (ct t sign q):=by
 unfold ct;split
 ·rename_i r hr
  obtain⟨h1,h2⟩:=h.rows r (zAb hr);exact⟨by simp;omega,λw hw=>h2 w (zCe (zBg hw))⟩
 ·exact oq
theorem ahQ{w:Nat}(h0:w≠0)(h:w<18446744073709551616):dx .sub .u64 (w:Int) 1=ś (.int .u64 ((w-1:Nat):Int)):=by
 grind[dx,Ih]
theorem Zm(t)(ht:stepsOK t)(s)(hs:wOK s)(sign)(hsg:sign<95)(hst:∀p<512,bB s p=ť->p<t.length):
 Fn ŷ JC [dh t,.strct (s.map aV),nV sign] (.strct ((ofW (ct t sign) s).map aV)):=by
 refine yoE Ka ?_;have htl:=ht.len;have hsl:=hs.len;obtain⟨R,hR⟩:∃R,R=ofW (ct t sign) s:=⟨_,rfl⟩;have hfok:∀q,wOK (ct t sign q):=λq=>ht.set hsg q;have hRl:R.length=8:=by rw[hR];exact(vT hs λq _=>hfok q).1.len
 rw[<-hR];have h8:∀x:List Nat,x.length=8->zAj 8 (x.map aV)=x.map aV:=λx hx=>zAc (by simp;omega)
 have h8s:=h8 s hsl;simp[dh,hsl,h8s]
 refine ah (λ(x:Nat×List Nat)=>⟨[(0,dh t),(2,nV sign),(6,.ptr 0 0),(7,.ptr 1 0),(10,.strct (s.map aV)),(11,nV x.1)],[ś (.box (eK.map aV)),ś (.box (x.2.map aV))]⟩)
  (λx=>x.1<=8/\wOK x.2/\vU (ct t sign) x.1 (s.drop x.1) x.2=R) (λx=>8-x.1) [] _ (0,eK) rfl (by simp[FG,dh]) ⟨by simp,oq,by simp[hR,ofW]⟩ ?_
 rintro⟨i,out⟩ ⟨hi8,hout,hi⟩ N hN;simp only at hi8 hout hi;rcases zAe i 8 with hlt|hge
 ·obtain⟨w,hw⟩:=av (l:=s) (k:=i) (by omega)
  have hwl:=hs.lt w (zAb hw);have hgw:bh s i=w:=by simp[bh,hw]
  rw[r5 hw]at hi;simp only[vU]at hi;obtain⟨T,hT⟩:∃T,T=pN (λj=>ct t sign (64*i+j)) (w+1) w out:=⟨_,rfl⟩;have hTok:wOK T:=by grind[xR]
  rw[<-hT]at hi;replace hi:=hid hi;have hc:=dm (l:=s.map aV) (j:=i) (v:=.int .u64 w) (by rw[zAg,hw];rfl)
  simp(disch:=omega) [dh,hc]
  refine ah (λ(x:Nat×Nat×List Nat)=>⟨[(0,dh t),(2,nV sign),(6,.ptr 0 0),(7,.ptr 1 0),(8,nV i),(9,.int .u64 x.2.1),(10,.strct (s.map aV)),(11,nV i)],[ś (.box (eK.map aV)),ś (.box (x.2.2.map aV))]⟩)
   (λx=>wOK x.2.2/\x.2.1<18446744073709551616/\x.2.1<=x.1/\(∀j<64,x.2.1.testBit j=ť->w.testBit j=ť)/\pN (λj=>ct t sign (64*i+j)) x.1 x.2.1 x.2.2=T) (λx=>x.1) [] _ (w+1,w,out) rfl (by simp[dh]) ⟨hout,hwl,by simp,λ_ _ h=>h,hT.symm⟩ ?_
  rintro⟨fu,v,o⟩ ⟨hok,hvl,hvf,hsub,hb⟩ M hM;simp only at hok hvl hvf hsub hb;by_cases h0:v=0
  ·subst h0
   have:o=T:=by
    cases fu with
    |zero=>simpa[pN]using hb
    |succ fu=>simpa[pN]using hb
   subst this;simp(disch:=omega) [dh];exact hN.out _<|Nx.mk (i+1,o) (by simp[dh]) ⟨by simp only;omega,hok,hi.out⟩ (by simp only;omega)
  ·cases fu with
   |zero=>omega
   |succ fu=>
   simp only[pN,if_neg h0]at hb;obtain⟨g1,g2,g3⟩:=aap h0 hvl;have hp:64*i+tz v<t.length:=hst _ (by omega) (by grind[bB,tz])
   obtain⟨row,hrow⟩:=av (l:=t) (k:=64*i+tz v) hp;have hset:ct t sign (64*i+tz v)=(row.drop (8*sign)).take 8:=by simp[ct,hrow]
   have hfo:=hfok (64*i+tz v);have hj:=TI o _ row (8*sign) hok hfo hset.symm;have htz:=tE h0 hvl;have hsb:=ahQ h0 hvl;have hand:=XO hvl (show v-1<18446744073709551616 by omega)
   have hlt2:=G2 h0;obtain⟨z,hz⟩:∃z,z=tz v:=⟨_,rfl⟩;rw[<-hz]at g1 g2 g3 hp hrow hset hfo hj htz hb;obtain⟨v',hv'⟩:∃v',v'=v &&& (v-1):=⟨_,rfl⟩;rw[<-hv']at hand hlt2 hb g3;obtain⟨v1,hv1⟩:∃v1,v1=v-1:=⟨_,rfl⟩;rw[<-hv1]at hand hsb;have hi1:((64:Int)*i+z).toNat=64*i+z:=by omega
   have hs1:sign*8=8*sign:=Nat.mul_comm _ _;simp only[aV]at htz;simp(disch:=omega) [dh,h0];refine aa htz rfl λ_=>?_;simp(disch:=omega) [hi1,hrow,bL,hs1];refine am [0,1] 1 [1] (by simp) (by simp) (by simp) (by simp) hj (by simp) λ_ _=>?_
   simp[hsb,hand];exact hM.out _<|Nx.mk (fu,v',orW o (ct t sign (64*i+z))) (by simp[dh]) ⟨hok.or hfo,by simp only;omega,by simp only;omega,λj hj hb=>hsub j hj (by simp_all),hb⟩ (by simp only;omega)
 simp_all[zAf,vU,zAa,dh,eK]
def cj(N:Net)(q:Nat):List Nat:=Q5 (j7 N.edges N.n q)
def mH(ws:List Nat)(i:Nat)(t:List (List Nat))(c:Nat):List (List Nat):=match t[i]? with
 |some r=>t.set i (eY 8 (8*(c-32)) r ws)
 |none=>t
def loE(e:NEdge):Nat:=if e.low<32 then 32 else e.low
def hiE(e:NEdge):Nat:=if 126<e.high then 126 else e.high
def BT(N:Net)(t:List (List Nat))(e:NEdge):List (List Nat):=(zDi (loE e) (hiE e+1-loE e)).foldl (mH (cj N e.to) e.fr) t
def tX:List Nat:=zAd 760 0
def gX(N:Net):List (List Nat):=N.edges.foldl (BT N) (zAd N.n tX)
theorem tJ{N:Net}(h:N.ok){q}(hq:q<N.n):(∀p∈j7 N.edges N.n q,p<512)/\(j7 N.edges N.n q).length<=1000000:=by
 have hto:∀e∈N.edges,e.to<N.n:=λe he=>(h.ends e he).2.1;have hle:=h.le;refine⟨λp hp=>?_,?_⟩
 ·have:=((Gg hto hq).1 hp).lt hto hq
  omega
 ·have:∀(l:List Bool)(q:Nat),(fK q l).length<=l.length:=by
   intro l
   induction l with
   |nil=>intro q;simp[fK]
   |cons b l ih=>
     grind[fK]
  grind[nO,nN,j7]
theorem iQ{N}(h:N.ok){q}(hq:q<N.n):wOK (cj N q):=aam (tJ h hq).1
structure tOK (n:Nat) (t:List (List Nat)):Prop where
 len:t.length=n
 rows:∀r∈t,r.length=760/\∀w∈r,w<18446744073709551616
theorem afn{k off r t}(hr:∀w∈r,w<18446744073709551616)(ht:∀w∈t,w<18446744073709551616):∀w∈eY k off r t,w<18446744073709551616:=by
 intro w hw;simp only[eY,List.mem_append]at hw;grind[zBg,zDj,orW,zDd,aaG,zCe,zAb]
theorem tOK.join{n t}(h:tOK n t){ws}(hws:wOK ws){i c}(hc:c-32<95):tOK n (mH ws i t c):=by
 unfold mH;split
 ·rename_i r hr
  obtain⟨h1,h2⟩:=h.rows r (zAb hr);refine⟨by simp[h.len],λx hx=>?_⟩
  rcases zDe hx with hx|rfl
  ·exact h.rows x hx
  ·exact⟨by rw[JI (by omega) hws.len (by omega),h1],afn h2 hws.lt⟩
 ·exact h
theorem OZ{N}(h:N.ok)(hl:N.edges.length<=1000000):Fn ŷ MM [.strct (Net.c N)] (dh (gX N)):=by
 refine yoE NB ?_;unfold An;have hle:=h.le;obtain⟨R,hR⟩:∃R,R=gX N:=⟨_,rfl⟩;rw[<-hR];have hcl:∀q,q<N.n->Fn ŷ Co [.strct (Net.c N),.seq 1 [nV q]] (di (j7 N.edges N.n q)):=λq hq=>Df h hl hq;obtain⟨cl,hclD⟩:∃cl,cl=(List.range N.n).map (cj N):=⟨_,rfl⟩;have hcll:cl.length=N.n:=by simp[hclD]
 have hclg:∀q,q<N.n->cl[q]?=ś (cj N q):=λq hq=>by grind
 simp(disch:=omega);refine ah (λk:Nat=>⟨[(1,.ptr 0 0),(3,.ref 1 N.n),(13,.int .i64 N.n),(14,nV k)],[ś (.box (Net.c N)),ś (.arr cr 8 (j2 bL eK N.n (cl.take k)))]⟩) (λk=>k<=N.n) (λk=>N.n-k) [] _ 0 rfl (by simp[<-E7,FG,bL]) (by simp) ?_
 intro k hk M hM;rcases zAe k N.n with hlt|hge
 ·have hx:=hclg k hlt
  have hak:(cl.take k).length=k:=by simp;omega
  have hfl:=E8 (f:=bL) (d:=eK) (n:=N.n) (acc:=cl.take k) (by omega)
  have hg:=E9 (f:=bL) (d:=eK) (n:=N.n) (acc:=cl.take k) (by omega)
  have hs:=E6 (f:=bL) (d:=eK) (n:=N.n) (acc:=cl.take k) (by omega) (cj N k)
  rw[hak]at hg hs;rw[<-bk hx]at hs;obtain⟨hc1,hc2⟩:=tJ h hlt;have hso:=GC _ hc1 hc2;have hcc:=hcl k hlt;have h8:((cj N k).map aV).length=8:=by simp[(iQ h hlt).len]
  simp at hcc;simp only[bL]at hs hg;simp(disch:=omega);refine ae hcc (by simp) λ_=>?_
  simp;refine aa hso (by simp) λ_=>?_
  simp only[show Q5 (j7 N.edges N.n k)=cj N k from rfl]
  have hz:eK.length=8:=rfl;have hcs:=(iQ h hlt).len;have hzd:zBh 8 (eK.map aV)=[]:=rfl;simp(disch:=omega) [hg,hs,hcs,hzd];exact hM.out _<|Nx.mk (k+1) (by simp) (by omega) (by omega)
 ·have:k=N.n:=by omega
  subst this;have hff:j2 bL eK N.n (cl.take N.n)=cl.map bL:=by grind[zAc,Bm]
  have hz760:V.strct (zAd 760 (V.int .u64 0))=bL tX:=by simp[bL,tX,aV]
  simp(disch:=omega) [hff,hz760]
  refine ah (λ(x:Nat×List (List Nat))=>⟨[(3,.ref 0 N.n),(5,.ref 1 N.n),(30,rb N.edges),(31,.int .i64 N.edges.length),(32,nV x.1)],[ś (.arr cr 8 (cl.map bL)),ś (.arr ll 760 (x.2.map bL))]⟩)
   (λx=>x.1<=N.edges.length/\tOK N.n x.2/\(N.edges.drop x.1).foldl (BT N) x.2=R) (λx=>N.edges.length-x.1) [] _ (0,zAd N.n tX) rfl (by simp) ⟨by simp,⟨by simp,λr hr=>?_⟩,by simp[hR,gX]⟩ ?_
  ·grind[tX]
  clear hM hk hff hz760;rintro⟨k,t⟩ ⟨hk,ht,hi⟩ M' hM;simp only at hk ht hi;have htl:=ht.len;rcases place N.edges k hk with⟨he,hd⟩|⟨hlt,e,hx,hd⟩<;>rw[hd]at hi
  ·simp only[zCi]at hi
   subst hi;simp[he,htl];rfl
  ·obtain⟨g1,g2,g3,g4⟩:=h.ends e (zAb hx)
   simp only[zBd]at hi;obtain⟨T,hT⟩:∃T,T=BT N t e:=⟨_,rfl⟩;rw[<-hT]at hi;replace hi:=hid hi;have hlo:(if(e.low:Int)<32 then(32:Int)else(e.low:Int))=(loE e:Int):=by grind[loE]
   have hlo':(if e.low<32 then(32:Int)else(e.low:Int))=(loE e:Int):=by omega
   have hhi:(if 126<(e.high:Int)then(126:Int)else(e.high:Int))=(hiE e:Int):=by grind[hiE]
   have hlo2:32<=loE e/\loE e<256:=by omega
   have hhi2:hiE e<=126:=by omega
   simp(disch:=omega) [hx]
   refine ah (λ(x:Nat×List (List Nat))=>⟨[(3,.ref 0 N.n),(5,.ref 1 N.n),(7,.ptr 2 0),(8,nV x.1),(30,rb N.edges),(31,.int .i64 N.edges.length),(32,nV k)],[ś (.arr cr 8 (cl.map bL)),ś (.arr ll 760 (x.2.map bL)),ś (.box (NEdge.c e))]⟩)
    (λx=>loE e<=x.1/\x.1<=256/\tOK N.n x.2/\(zDi x.1 (hiE e+1-x.1)).foldl (mH (cj N e.to) e.fr) x.2=T) (λx=>256-x.1) [] _ (loE e,t) rfl (by simp[NEdge.c,hlo']) ⟨by simp,by simp only;omega,ht,by simp[hT,BT]⟩ ?_
   rintro⟨c,t'⟩ ⟨hc1,hc2,ht',hj⟩ P hP;simp only at hc1 hc2 ht' hj;have htl':=ht'.len;rcases zAe (hiE e) c with hgt|hle2
   ·rw[show hiE e+1-c=0 by omega]at hj
    simp only[List.range'_zero,zCi]at hj;subst hj;simp(disch:=omega) [NEdge.c];exact hM.out _<|Nx.mk (k+1,t') (by simp) ⟨by simp only;omega,ht',hi.out⟩ (by simp only;omega)
   ·obtain⟨m',hm'⟩:∃m',hiE e+1-c=m'+1:=⟨hiE e-c,by omega⟩
    rw[hm']at hj;simp only[zEj,zBd]at hj;obtain⟨r,hr⟩:=av (l:=t') (k:=e.fr) (by omega)
    obtain⟨hr1,hr2⟩:=ht'.rows r (zAb hr);have hjoin:=TH ll cr t' cl e.fr e.to (8*(c-32)) r (cj N e.to) hr (hclg _ g2) hr2 hr1 (by omega) (iQ h g2)
    have hja:mH (cj N e.to) e.fr t' c=t'.set e.fr (eY 8 (8*(c-32)) r (cj N e.to)):=by simp[mH,hr]
    rw[<-hja]at hjoin;have ht2:=ht'.join (iQ h g2) (i:=e.fr) (c:=c) (by omega)
    obtain⟨t2,ht2e⟩:∃t2,t2=mH (cj N e.to) e.fr t' c:=⟨_,rfl⟩;rw[<-ht2e]at hjoin hj ht2;have hc3:((c:Int)-32).toNat*8=8*(c-32):=by omega
    have hrw:(λr:List Nat=>V.strct (r.map aV))=bL:=rfl;rw[hrw]at hjoin;simp(disch:=omega) [NEdge.c,hc3];refine iI [0,1] 2 [1,0] (by simp_all) (by simp) (by simp[htl',hcll]) (by simp) hjoin (by simp) ?_
    simp(disch:=omega);exact hP.out _<|Nx.mk (c+1,t2) (by simp[NEdge.c]) ⟨by simp only;omega,by simp only;omega,ht2,by grind⟩ (by simp only;omega)
def uf(b:List Bool)(e:NEdge):List Bool:=if hiE e<loE e then b else
 if hiE e<126 then(b.set (loE e-32) ť).set (hiE e+1-32) ť else b.set (loE e-32) ť
def mz(N:Net):List Bool:=N.edges.foldl uf ((zAd 95 ğ).set 0 ť)
theorem P0(b)(e):(uf b e).length=b.length:=by grind[uf]
theorem XM(l:List Bool):ax (l.map V.bool)=[]:=xZ (λ_=>rfl) l
theorem ab3(hp)(l:List Bool):purs hp (l.map V.bool)=ś (l.map V.bool):=Ca (λ_=>rfl) l
theorem ab2(m)(l:List Bool):fq m (l.map V.bool)=l.map V.bool:=B7 (λ_=>rfl) l
theorem adr(m)(l:List Bool):so m (l.map V.bool)=l.map V.bool:=D1 (λ_=>rfl) l
theorem Ze(l:List Bool):dJ (l.map V.bool)=true:=n7 (λ_=>rfl) l
attribute [simp] XM ab3 ab2 adr Ze
theorem ajx:zAd 95 (V.bool ğ)=(zAd 95 ğ).map V.bool:=by simp
attribute [-simp] zBa
theorem O1{N}(h:N.ok)(hl:N.edges.length<=1000000):Fn ŷ MP [.strct (Net.c N)] (.strct ((mz N).map .bool)):=by
 refine yoA NF ?_;obtain⟨R,hR⟩:∃R,R=mz N:=⟨_,rfl⟩;rw[<-hR];obtain⟨z,hz⟩:∃z:List Bool,z=zAd 95 false:=⟨_,rfl⟩;have hzl:z.length=95:=by simp[hz]
 have hzz:zAd 95 (V.bool ğ)=z.map V.bool:=by rw[hz];exact ajx
 have hsp:V.bool ť::(z.map V.bool).tail=(z.set 0 ť).map V.bool:=by
  rw[hz];rfl
 simp[hzz,hzl,hsp]
 refine ah (λ(x:Nat×List Bool)=>⟨[(2,.ptr 0 0),(3,.ptr 1 0),(10,rb N.edges),(11,.int .i64 N.edges.length),(12,nV x.1)],[ś (.box (z.map V.bool)),ś (.box (x.2.map V.bool))]⟩)
  (λx=>x.1<=N.edges.length/\x.2.length=95/\(N.edges.drop x.1).foldl uf x.2=R) (λx=>N.edges.length-x.1) [] _ (0,z.set 0 ť) rfl (by simp) ⟨by simp,by simp[hzl],by simp[hR,mz,hz]⟩ ?_
 rintro⟨k,b⟩ ⟨hk,hb,hi⟩ M hM;simp only at hk hb hi;rcases place N.edges k hk with⟨he,hd⟩|⟨hlt,e,hx,hd⟩<;>rw[hd]at hi
 ·simp_all[zCi,zAj,zAc,zBh,zAf,zAa]
 ·obtain⟨g1,g2,g3,g4⟩:=h.ends e (zAb hx)
  simp only[zBd]at hi;have hml:=P0 b e;obtain⟨T,hT⟩:∃T,T=uf b e:=⟨_,rfl⟩;rw[<-hT]at hi hml;replace hi:=hid hi;have hlo:(if(e.low:Int)<32 then(32:Int)else(e.low:Int))=(loE e:Int):=by grind[loE]
  have hhi:(if 126<(e.high:Int)then(126:Int)else(e.high:Int))=(hiE e:Int):=by grind[hiE]
  have hlo':(if e.low<32 then(32:Int)else(e.low:Int))=(loE e:Int):=by omega
  have hhi':(if 126<e.high then(126:Int)else(e.high:Int))=(hiE e:Int):=by omega
  have hlo2:32<=loE e/\loE e<256:=by omega
  have hhi2:hiE e<=126:=by omega
  obtain⟨lo,hlod⟩:∃lo,lo=loE e:=⟨_,rfl⟩;obtain⟨hh,hhid⟩:∃hh,hh=hiE e:=⟨_,rfl⟩;rw[<-hlod]at hlo hlo' hlo2;rw[<-hhid]at hhi hhi' hhi2;simp only[uf,<-hlod,<-hhid]at hT;have h1:((lo:Int)-32).toNat=lo-32:=by omega
  have h2:((hh:Int)+1-32).toNat=hh-31:=by omega
  simp(disch:=omega) [hx,hlo',hhi'];refine BrKd.mk (λhc=>?_) (λhc=>?_)
  ·rw[if_pos (by omega)]at hT
   subst hT;simp(disch:=omega);exact hM.out _<|Nx.mk (k+1,T) (by simp) ⟨by simp only;omega,by simp only;omega,hi.out⟩ (by simp only;omega)
  ·rw[if_neg (by omega)]at hT
   have hs1:=oz (l:=b.map V.bool) (j:=lo-32) (v:=.bool ť) (by simp;omega)
   rw[show(b.map V.bool).set (lo-32) (.bool ť)=(b.set (lo-32) ť).map V.bool by rw[zBa]]at hs1
   have hs2:=oz (l:=(b.set (lo-32) ť).map V.bool) (j:=hh-31) (v:=.bool ť);rw[show((b.set (lo-32) ť).map V.bool).set (hh-31) (.bool ť)=((b.set (lo-32) ť).set (hh-31) ť).map V.bool by rw[zBa,zBa,zBa]]at hs2
   simp(disch:=omega) [h1,hs1];refine BrKd.mk (λhc2=>?_) (λhc2=>?_)
   ·rw[if_pos (by omega)]at hT
    replace hs2:=hs2 (by simp;omega)
    simp(disch:=omega) [h2,hs2];exact hM.out _<|Nx.mk (k+1,T) (by simp[hT]) ⟨by simp only;omega,by simp only;omega,hi.out⟩ (by simp only;omega)
   ·rw[if_neg (by omega)]at hT
    simp(disch:=omega);exact hM.out _<|Nx.mk (k+1,T) (by simp[hT]) ⟨by simp only;omega,by simp only;omega,hi.out⟩ (by simp only;omega)
def ktS:KT:=⟨ť,kz 8 (.i .u64)⟩
theorem Ln(a b):eqK (bL a) (bL b)=decide (a=b):=by simp[eqK,bL,W8]
theorem yn{k}(h:k.length=8):bH ktS (bL k)=true:=by
 grind[bH,bL,gD,cl,ktS,VI]
theorem Dg(q)(hq:q.length=8):FnH ŷ jA [0] [.ptr 0 0,bL q] (s7 ktS 8) (nV 0) (fH ktS cr 8 bL [q]):=by
 refine yoH jO ?_;have hf:=yn hq;have ht:zAj 8 (q.map aV)=q.map aV:=zAc (by simp;omega)
 simp_all[bL,ktS,zAa,s7,fH,lU,nq,ee]
theorem zF(l)(q)(hl:l.length<=1000000)(hq:q.length=8):FnH ŷ jA [0] [.ptr 0 0,bL q] (fH ktS cr 8 bL l) (nV (lj eqB l q)) (fH ktS cr 8 bL (c5 eqB l q)):=by
 refine yoH jO ?_;have hf:=yn hq;have ht:zAj 8 (q.map aV)=q.map aV:=zAc (by simp;omega)
 simp only[bL,ktS]at hf;have hm:=rL Ln q l 0;cases hp:pos eqB q l with
 |some i=>
   rw[hp]at hm;replace hm:lU (.strct (q.map aV)) (ee bL 0 l)=ś (.int .i64 (i:Int)):=by grind[nV,bL]
   simp_all[ki,zAa,fH,ktS,bL]
 |none=>
   rw[hp]at hm;replace hm:lU (.strct (q.map aV)) (ee bL 0 l)=none:=by grind[nV,bL]
   have hpt:=rK Ln q l 0 hp;replace hpt:nq (.strct (q.map aV)) (.int .i64 (l.length:Int)) (ee bL 0 l)=ee bL 0 (l++[q]):=by grind[nV,bL]
   obtain⟨h1,h2⟩:=sr hp;rw[h1,h2];simp(disch:=omega) [ktS,bL,hm,hpt,ht]
theorem Zy(q)(hq:q.length=8):FnH ŷ AR [] [.seq 8 [bL q]] [] (.ptr 0 0) (fH ktS cr 8 bL [q]):=by
 refine yoH A5 ?_;have ht:zAj 8 (q.map aV)=q.map aV:=zAc (by simp;omega)
 have hd:zBh 8 (q.map aV)=[]:=zAf (by simp;omega)
 simp;refine ah (λk:Nat=>if k=0 then⟨[(3,.ptr 0 0),(9,.seq 8 [bL q]),(10,.int .i64 1),(11,.int .i64 0)],s7 ktS 8⟩else⟨[(3,.ptr 0 0),(9,.seq 8 [bL q]),(10,.int .i64 1),(11,.int .i64 1)],fH ktS cr 8 bL [q]⟩) (λk=>k<=1) (λk=>1-k) [] _ 0 rfl (by simp[ktS]) (by simp) ?_
 intro k hk N hN;rcases(show k=0\/k=1 by omega)with rfl|rfl
 ·simp[bL,hq,ht]
  refine am [0] 1 [0,1] (by simp) (by simp) (by simp[bL]) (by simp) (Dg q hq) (by simp) λ_ _=>?_
  simp;exact hN.out _<|Nx.mk 1 (by simp[bL]) (by simp) (by simp)
 simp
def eM(t:List (List Nat))(s:List Nat)(c:Nat):List Nat:=ofW (ct t c) s
structure dSet (n:Nat) (s:List Nat):Prop where
 ok:wOK s
 lt:∀p<512,bB s p=ť->p<n
def afc(bd:List Bool)(t:List (List Nat))(L:List Nat):List (Option Ob):=[ś (.box (bd.map V.bool)),ś (.box [dh t]),ś (.box (L.map aV))]
attribute [simp] afc
theorem ZF(bd)(hbd:bd.length=95)(t)(ht:stepsOK t)(L s)(hL:L.length=8)(hs:dSet t.length s)(c)(hc:c<95)(b)(hb:bd[c]?=ś b):
 FnH ŷ kT [2,3,4] [bL s,nV c,.ptr 0 0,.ptr 1 0,.ptr 2 0] (afc bd t L) (bL (if b=ť then eM t s c else L)) (afc bd t (if b=ť then eM t s c else L)):=by
 refine yoH YV ?_;have hsl:=hs.ok.len;have h8:∀x:List Nat,x.length=8->zAj 8 (x.map aV)=x.map aV:=λx hx=>zAc (by simp;omega)
 have hd8:∀x:List Nat,x.length=8->zBh 8 (x.map aV)=[]:=λx hx=>zAf (by simp;omega)
 have h8s:=h8 s hsl;have h8L:=h8 L hL;have hd8L:=hd8 L hL;have hc1:=dm (l:=bd.map V.bool) (j:=c) (v:=.bool b) (by rw[zAg,hb];rfl)
 have hst:(eM t s c).length=8:=(vT hs.ok λq _=>ht.set hc q).1.len;have h8t:=h8 _ hst;have hof:=Zm t ht s hs.ok c hc hs.lt;rw[show ofW (ct t c) s=eM t s c from rfl]at hof
 cases b
 ·simp(disch:=omega) [dh,bL,hc1,h8L]
 ·simp only[dh]at hof
  simp(disch:=omega) [dh,bL,hc1,h8s];refine aa hof (by simp) λ_=>?_
  simp[h8t,hst,hL,hd8L]
attribute [simp] dh
def wsH(bd:List Bool)(t:List (List Nat))(L:List Nat)(rows:List (List Nat))(l:List (List Nat)):List (Option Ob):=[ś (.box (bd.map V.bool)),ś (.box [dh t]),ś (.box (L.map aV)),ś (.box [.ref 5 0,.ref 6 l.length]),ś (.arr aN 1 (rows.map di)),ś (.mp ktS (ee bL 0 l)),ś (.arr cr 8 (l.map bL))]
def wsI(bd:List Bool)(t:List (List Nat))(L:List Nat)(rows:List (List Nat))(l:List (List Nat))(acc last:List Nat):List (Option Ob):=[ś (.box (bd.map V.bool)),ś (.box [dh t]),ś (.box (L.map aV)),ś (.box [.ref 7 0,.ref 8 l.length]),ś (.arr aN 1 (rows.map di)),ś (.arr ap 1 (me acc)),ś (.box (last.map aV)),ś (.mp ktS (ee bL 0 l)),ś (.arr cr 8 (l.map bL))]
def Qa(t:List (List Nat))(l:List (List Nat))(L:List Nat):Nat->List Nat
 |0=>L
 |i+1=>match l[i]? with
   |some q=>eM t q 94
   |none=>L
theorem WM (bd) (hbd:bd.length=95) (t) (ht:stepsOK t) (hin:∀ q c,c < 95→∀ p < 512,bB (ct t c q) p=ť→p < t.length)
 (hb0:bd[0]?=ś ť) (hbn:∀ c,c + 1 < 95→bd[c + 1]?=ś ğ→∀ s,dSet t.length s→eM t s (c + 1)=eM t s c)
 (L0) (hL0:L0.length=8) (most) (hm:most≤100000) (start) (h0:dSet t.length start) (list) (rows) (hw:FN eqB (eM t) start most=ś (list,rows)):
 FnH ŷ AQ [1] [bL start,.fn (.func kT) [] [.ptr 0 0,.ptr 1 0,.ptr 2 0],nV most] (afc bd t L0) (.tup [.ref 3 list.length,.ref 4 rows.length,.bool ť]) (afc bd t (Qa t list L0 list.length)++[ś (.arr cr 8 (list.map bL)),ś (.arr aN 1 (rows.map di))]):=by
 refine yoH A4 ?_
 unfold pG
 have hdn:∀ s c,dSet t.length s→c < 95→dSet t.length (eM t s c):=λs c hs hc=>by
  obtain ⟨g1,g2⟩:=vT hs.ok λq _=>ht.set hc q
  refine ⟨g1,λp hp hh=>?_⟩
  obtain ⟨r,hr,h1,h2⟩:=(g2 p hp).1 hh
  grind
 have h8:∀ x:List Nat,x.length=8→zAj 8 (x.map aV)=x.map aV:=λx hx=>zAc (by simp; omega)
 have hd8:∀ x:List Nat,x.length=8→zBh 8 (x.map aV)=[]:=λx hx=>zAf (by simp; omega)
 have hst:=h0.ok.len
 have h8s:=h8 start hst
 have hz:eK.length=8:=rfl
 have hzd:zBh 8 (eK.map aV)=[]:=rfl
 obtain ⟨RL,hRL⟩:∃ RL,RL=Qa t list L0 list.length:=⟨_,rfl⟩
 rw [←hRL]
 simp (disch:=omega) [-zAa,bL,hst,h8s]
 refine am [] 0 [] (by simp) (by simp) (by simp [bL]) (by simp) (Zy start hst) (by simp) λ_ _=>?_
 simp (disch:=omega) [-zAa]
 refine ah (λ(x:Nat × Nat × List (List Nat) × List (List Nat) × List Nat)=>⟨[(1,.fn (.func kT) [] [.ptr 0 0,.ptr 1 0,.ptr 2 0]),(2,nV most),(9,.ptr 3 0),(10,.ref 4 x.2.2.2.1.length),(11,nV x.2.1)],wsH bd t x.2.2.2.2 x.2.2.2.1 x.2.2.1⟩)
  (λx=>(∀ q∈x.2.2.1,dSet t.length q)∧mA eqB x.2.2.1∧x.2.1≤x.2.2.1.length∧x.2.2.2.1.length=x.2.1∧x.2.2.1.length≤most + 1∧x.2.2.2.2=Qa t x.2.2.1 L0 x.2.1∧x.2.2.2.2.length=8∧de eqB (eM t) most x.1 x.2.1 x.2.2.1 x.2.2.2.1=ś (list,rows)) (λx=>x.1) [.r 10 aN 1] _ (most + 2,0,[start],[],L0) rfl (by simp [wsH,ee,dh]) ⟨by simpa using h0,mA.one _,by simp,rfl,by simp,rfl,hL0,hw⟩ ?_
 rintro ⟨f,i,l,rw,L⟩ ⟨hd,hap,hil,hrl,hlm,hLe,hLl,hi⟩ N hN
 simp only at hd hap hil hrl hlm hLe hLl hi
 cases f with
 | zero=>simp [de] at hi
 | succ f=>
 simp only [de] at hi
 rcases zAe i l.length with hlt | hge
 · obtain ⟨q,hq⟩:=av hlt
   rw [hq] at hi
   simp only at hi
   have hqn:=hd q (zAb hq)
   have hql:=hqn.ok.len
   have h8q:=h8 q hql
   obtain ⟨T,hT⟩:∃ T,T=aZ eqB (eM t q) 95 0 l:=⟨_,rfl⟩
   rw [←hT] at hi
   replace hi:=hid hi
   simp (disch:=omega) [-zAa,wsH,hq,bL,hql,h8q,FG,hz,hzd]
   refine ah (λ(x:List Nat × List (List Nat) × List Nat × Nat × List Nat)=>⟨[(1,.fn (.func kT) [] [.ptr 0 0,.ptr 1 0,.ptr 2 0]),(2,nV most),(9,.ptr 3 0),(10,.ref 4 rw.length),(11,nV i),(12,.ref 5 95),(13,.ptr 6 0),(14,nV x.2.2.2.1),(39,.int .i64 95),(40,nV x.1.length)],wsI bd t x.2.2.2.2 rw x.2.1 x.1 x.2.2.1⟩)
    (λx=>(∀ q∈x.2.1,dSet t.length q)∧x.1.length≤95∧x.2.1[i]?=ś q∧x.2.1.length≤most + 1 + x.1.length∧x.2.2.1.length=8∧x.2.2.2.2.length=8∧(∀ c,x.1.length=c + 1→x.2.2.2.2=eM t q c)∧pos eqB x.2.2.1 x.2.1=ś x.2.2.2.1∧(x.1++(aZ eqB (eM t q) (95 - x.1.length) x.1.length x.2.1).1,(aZ eqB (eM t q) (95 - x.1.length) x.1.length x.2.1).2)=T)
    (λx=>95 - x.1.length) [] _ ([],l,q,i,L) rfl (by simp [wsI,E5,dh]) ⟨hd,by simp,hq,by simp; omega,hql,hLl,by simp,Ij hap hq,by simp [hT]⟩ ?_
   rintro ⟨acc,l',last,num,L'⟩ ⟨hd',hc,hq',hl',hll,hLl',hLc,hp,hi'⟩ M hM
   simp only at hd' hc hq' hl' hll hLl' hLc hp hi'
   have hil':=(zAi.1 hq').1
   rcases zAe acc.length 95 with hc95 | hc95
   · obtain ⟨b,hb⟩:=av (l:=bd) (k:=acc.length) (by omega)
     have hof:=ZF bd hbd t ht L' q hLl' hqn acc.length hc95 b hb
     have hto:(if b=ť then eM t q acc.length else L')=eM t q acc.length:=by
      cases b with
      | true=>rfl
      | false=>
        cases hac:acc.length with
        | zero=>simp_all
        | succ c=>
          simp_all
     rw [hto] at hof
     obtain ⟨to,htoe⟩:∃ to,to=eM t q acc.length:=⟨_,rfl⟩
     rw [←htoe] at hof
     have hton:=hdn q acc.length hqn hc95
     rw [←htoe] at hton
     have htol:=hton.ok.len
     obtain ⟨m',hm'⟩:∃ m',95 - acc.length=m' + 1:=⟨94 - acc.length,by omega⟩
     have hm2:95 - (acc.length + 1)=m':=by omega
     rw [hm'] at hi'
     simp only [aZ,←htoe] at hi'
     have hset:=E4 hc95
     have hfl:=n9 (acc:=acc) (by omega)
     have h8t:=h8 to htol
     have h8l:=h8 last hll
     have hd8l:=hd8 last hll
     have ff1:=yn htol
     have ff2:=yn hll
     have feq:=Ln to last
     simp only [bL,ktS] at ff1 ff2 feq
     replace hi':=hid hi'
     simp (disch:=omega) [-zAa,wsI,hq',bL,hql,h8q]
     refine am [2,3,4] 3 [0,1,2] (by simp) (by simp) (by simp [bL]) (by simp) hof (by simp) λ_ _=>?_
     simp (disch:=omega) [-zAa,bL,htol,hz,hzd,FG,h8t,h8l,hll,ff1,ff2,feq]
     have next:∀ (num':Nat) (last':List Nat),last'.length=8→pos eqB last' (c5 eqB l' to)=ś num'→num'=lj eqB l' to→∀ τ:St,τ.nrm [1,2,9,10,11,12,13,14,39,40]=⟨[(1,.fn (.func kT) [] [.ptr 0 0,.ptr 1 0,.ptr 2 0]),(2,nV most),(9,.ptr 3 0),(10,.ref 4 rw.length),(11,nV i),(12,.ref 5 95),(13,.ptr 6 0),(14,nV num'),(39,.int .i64 95),(40,.int .i64 ((acc.length:Int) + 1))],wsI bd t to rw (c5 eqB l' to) (acc++[num']) last'⟩→M τ:=by
      intro num' last' h0 h1 h2 τ hτ
      have h3:=Iw l' to
      refine hM.out τ<|Nx.mk (acc++[num'],c5 eqB l' to,last',num',to) (by simpa using hτ) ⟨?_,by simp; omega,L1 hq',by simp; omega,h0,htol,?_,h1,?_⟩ (by simp; omega)
      · intro x hx
        rcases xV hx with hx | rfl
        · exact hd' x hx
        · exact hton
      · intro c hc
        simp at hc
        rw [htoe,hc]
      · have:=hi'.out
        rw [←this]
        simp [hm2,h2]
     replace next:=hid next
     by_cases hlt2:to=last
     · subst hlt2
       obtain ⟨e1,e2⟩:=ki hp
       have hs:=hset num
       simp only [nV] at hs
       simp (disch:=omega) [-zAa,hfl,hs,oc hc95]
       exact next.out num to hll (by rw [e2]; exact hp) e1.symm _ (by simp [wsI,e2])
     · simp (disch:=omega) [-zAa,hlt2,htol,h8t]
       refine cd ⟨[(1,.fn (.func kT) [] [.ptr 0 0,.ptr 1 0,.ptr 2 0]),(2,nV most),(9,.ptr 3 0),(10,.ref 4 rw.length),(11,nV i),(12,.ref 5 95),(13,.ptr 6 0),(14,nV (lj eqB l' to)),(15,nV acc.length),(39,.int .i64 95),(40,nV acc.length)],wsI bd t to rw (c5 eqB l' to) acc to⟩ (λF hF=>?_) ?_
       · simp [wsI] at hF
         refine QU.mk ?_ ?_
         · simp (disch:=omega) [-zAa,bL,htol,h8t]
           refine iI [0] 1 [3,7,8] (by simp) (by simp) (by simp [bL]) (by simp) (zF l' to (by omega) htol) (by simp) ?_
           simp (disch:=omega) [-zAa,hll,hd8l,htol]
           exact hF
         · simp (disch:=omega) [-zAa,bL,htol,h8t]
           refine iI [0] 1 [3,7,8] (by simp) (by simp) (by simp [bL]) (by simp) (zF l' to (by omega) htol) (by simp) ?_
           simp (disch:=omega) [-zAa,hll,hd8l,htol,h8t]
           exact hF
       have hs:=hset (lj eqB l' to)
       simp only [nV] at hs
       simp (disch:=omega) [-zAa,wsI,hfl,hs,oc hc95]
       exact next.out _ to htol (Rd l' to) rfl _ (by simp [wsI])
   · have hacc:acc.length=95:=by omega
     have h0:95 - acc.length=0:=by omega
     rw [h0] at hi'
     simp only [aZ,List.append_nil] at hi'
     subst hi'
     have hi2:=hi.out
     simp only at hi2
     split at hi2
     · cases hi2
     · rename_i hle
       have hf:=Bl hacc
       have hfl:(me acc).length=95:=n9 (by omega)
       have hLast:L'=Qa t l' L0 (i + 1):=by grind[Qa]
       simp (disch:=omega) [-zAa,wsI,hacc,hfl]
       refine hN.out _<|Nx.mk (f,i + 1,l',rw++[acc],L') (by simp [wsH,hf,hrl]) ⟨hd',?_,by simp only; omega,by simp [hrl],by simp only; omega,hLast,hLl',hi2⟩ (by simp only; omega)
       grind[fZ,eqB,eM]
 · have hil2:i=l.length:=by omega
   simp_all[zCb,zDd,Prod.mk.injEq,zAa,wsH]
end Go.Abs
end
section
set_option maxHeartbeats 1000000
namespace Go.Abs
open Go.Aut
attribute [-simp] getElem?_pos zDc zEe
theorem aiv{off r t}(hr:off+8<=r.length)(ht:t.length=8)(k):(eY 8 off r t)[k]?=if off<=k/\k<off+8 then(orW ((r.drop off).take 8) t)[k-off]? else r[k]?:=by
 have h8:=Ce hr ht;have hto:(orW ((r.drop off).take 8) t).take 8=orW ((r.drop off).take 8) t:=zAc (by omega)
 rw[eY,hto];grind
theorem YC{a b r t}(hr:8*a+8<=r.length)(hb:8*b+8<=r.length)(ht:t.length=8):((eY 8 (8*a) r t).drop (8*b)).take 8=if a=b then orW ((r.drop (8*b)).take 8) t else(r.drop (8*b)).take 8:=by
 have h8:=Ce hr ht;refine zDb λk=>?_;rw[zBc];rcases zAe k 8 with hk|hk
 ·rw[if_pos hk,zBb,aiv hr ht]
  grind
 grind
theorem X1{n t}(ht:tOK n t){ws}(hws:wOK ws){i c sign q}(hi:i<n)(hc:32<=c/\c<127)(hs:sign<95):ct (mH ws i t c) sign q=if q=i/\c=sign+32 then orW (ct t sign q) ws else ct t sign q:=by
 obtain⟨r,hr⟩:∃r,t[i]?=ś r:=⟨_,zAh (by rw[ht.len];exact hi)⟩
 obtain⟨h1,h2⟩:=ht.rows r (zAb hr);have hj:mH ws i t c=t.set i (eY 8 (8*(c-32)) r ws):=by simp[mH,hr]
 rw[hj];by_cases hq:q=i
 ·subst hq
  have e1:ct t sign q=(r.drop (8*sign)).take 8:=by simp[ct,hr]
  have e2:ct (t.set q (eY 8 (8*(c-32)) r ws)) sign q=((eY 8 (8*(c-32)) r ws).drop (8*sign)).take 8:=by
   grind[ct,zBj]
  rw[e2,e1,YC (by omega) (by omega) hws.len]
  grind
 ·rw[if_neg (λh=>hq h.1)]
  grind[ct,zCc]
theorem BZ{n t}(ht:tOK n t){sign}(hs:sign<95)(q):wOK (ct t sign q):=by
 unfold ct;split
 ·rename_i r hr
  obtain⟨h1,h2⟩:=ht.rows r (zAb hr);exact⟨by simp;omega,λw hw=>h2 w (zCe (zBg hw))⟩
 ·exact oq
theorem Qf{n ws}(hws:wOK ws){i sign q}(hi:i<n)(hs:sign<95):∀(m c:Nat)(t:List (List Nat)),tOK n t->32<=c->c+m<=127->
 tOK n ((zDi c m).foldl (mH ws i) t)/\∀p<512,bB (ct ((zDi c m).foldl (mH ws i) t) sign q) p=(bB (ct t sign q) p||(decide (q=i/\c<=sign+32/\sign+32<c+m)&&bB ws p))
 |0,c,t,ht,_,_=>⟨ht,λp hp=>by grind⟩
 |m+1,c,t,ht,hc,hm=>by
   have ht2:=ht.join hws (i:=i) (c:=c) (by omega)
   obtain⟨g1,g2⟩:=Qf hws hi hs m (c+1) _ ht2 (by omega) (by omega)
   simp only[zEj,zBd];refine⟨g1,λp hp=>?_⟩;rw[g2 p hp,X1 ht hws hi (by omega) hs]
   by_cases hq:q=i
   ·subst hq
    by_cases hcs:c=sign+32
    ·rw[if_pos ⟨rfl,hcs⟩,aa1 (BZ ht hs q) hws hp,decide_eq_false (by omega),decide_eq_true (by omega)]
     simp
    grind
   simp_all
def sF(e:NEdge)(sign:Nat):Bool:=decide (loE e<=sign+32/\sign+32<=hiE e)
theorem Ee{N}(h:N.ok){sign q}(hs:sign<95):∀(es:List NEdge)(t:List (List Nat)),(∀e∈es,e∈N.edges)->tOK N.n t->
 tOK N.n (es.foldl (BT N) t)/\∀p<512,bB (ct (es.foldl (BT N) t) sign q) p=ť↔(bB (ct t sign q) p=ť\/∃e∈es,e.fr=q/\sF e sign=ť/\bB (cj N e.to) p=ť)
 |[],t,_,ht=>⟨ht,λp hp=>by simp⟩
 |e::es,t,hes,ht=>by
   obtain⟨g1,g2,g3,g4⟩:=h.ends e (hes e (by simp))
   have hlo:32<=loE e:=by grind[loE]
   have hhi:hiE e<=126:=by grind[hiE]
   have key:tOK N.n (BT N t e)/\∀p<512,bB (ct (BT N t e) sign q) p=(bB (ct t sign q) p||(decide (q=e.fr/\loE e<=sign+32/\sign+32<loE e+(hiE e+1-loE e))&&bB (cj N e.to) p)):=by
    rcases zAe (hiE e+1) (loE e)with hgt|hle
    ·have h0:hiE e+1-loE e=0:=by omega
     grind[BT,decide_eq_false]
    ·exact Qf (iQ h g2) g1 hs _ _ t ht hlo (by omega)
   obtain⟨f1,f2⟩:=Ee h hs es _ (λe he=>hes e (by simp[he])) key.1
   refine⟨f1,λp hp=>?_⟩;rw[zBd,f2 p hp,key.2 p hp,zFb,zEi,decide_eq_true_eq,or_assoc];refine or_congr_right ?_;constructor
   ·grind[sF]
   ·rintro⟨e',h1,h2,h3,h4⟩
    rcases zDa.1 h1 with rfl|h1
    ·simp only[sF,decide_eq_true_eq]at h3
     grind
    grind
theorem UN(n):tOK n (zAd n tX):=⟨by simp,λr hr=>by
 grind[tX,zEb]⟩
theorem XZ(n sign q)(hs:sign<95){p}(hp:p<512):bB (ct (zAd n tX) sign q) p=false:=by
 have:ct (zAd n tX) sign q=eK:=by
  unfold ct;split
  ·rename_i r hr
   have:=zAb hr;rw[zCg]at this;rw[this.2]
   have e:(tX.drop (8*sign)).take 8=zAd 8 0:=by
    grind[tX]
   rw[e];rfl
  ·rfl
 rw[this,EQ]
theorem vt{N}(h:N.ok):tOK N.n (gX N)/\∀sign q,sign<95->∀p<512,(bB (ct (gX N) sign q) p=ť↔∃e∈N.edges,e.fr=q/\sF e sign=ť/\bB (cj N e.to) p=ť):=by
 refine⟨(Ee h (sign:=0) (q:=0) (by omega) N.edges _ (λ_ h=>h) (UN N.n)).1,λsign q hs p hp=>?_⟩
 simp_all[gX,Ee,UN,XZ]
theorem qp{N}(h:N.ok){q}(hq:q<N.n){p}(hp:p<512):bB (cj N q) p=ť↔NReach N.edges q p:=by
 rw[cj,afI (tJ h hq).1 hp,decide_eq_true_eq];exact Gg (λe he=>(h.ends e he).2.1) hq
theorem LB{N}(h:N.ok){q}(hq:q<N.n){p}(hp:p<512)(hh:bB (cj N q) p=ť):p<N.n:=
 ((qp h hq hp).1 hh).lt (λe he=>(h.ends e he).2.1) hq
theorem PZ:∀(es:List NEdge)(b:List Bool),b.length=95->(es.foldl uf b).length=95/\∀c<95,(es.foldl uf b)[c]?=ś ğ->b[c]?=ś ğ/\∀e∈es,loE e<=hiE e->loE e≠c+32/\(hiE e<126->hiE e+1≠c+32)
 |[],b,hb=>⟨hb,λc hc h=>⟨h,by simp⟩⟩
 |e::es,b,hb=>by
   have hlo:32<=loE e:=by grind[loE]
   have hhi:hiE e<=126:=by grind[hiE]
   have hm:=P0 b e;obtain⟨g1,g2⟩:=PZ es (uf b e) (by rw[hm,hb])
   refine⟨g1,λc hc h=>?_⟩;obtain⟨f1,f2⟩:=g2 c hc h
   have set_false:∀(l:List Bool)(i:Nat),i<l.length->(l.set i ť)[c]?=ś ğ->i≠c/\l[c]?=ś false:=λl i hi h=>by
    grind
   have key:b[c]?=ś ğ/\(loE e<=hiE e->loE e≠c+32/\(hiE e<126->hiE e+1≠c+32)):=by
    unfold uf at f1;split at f1
    ·grind
    ·split at f1
     ·obtain⟨h1,h2⟩:=set_false _ _ (by simp;omega) f1
      obtain⟨h3,h4⟩:=set_false _ _ (by omega) h2
      exact⟨h4,λ_=>⟨by omega,λ_=>by omega⟩⟩
     grind
   simp_all
theorem PY:∀(es:List NEdge)(b:List Bool),b[0]?=ś ť->(es.foldl uf b)[0]?=ś ť
 |[],_,h=>h
 |e::es,b,h=>by
   refine PY es _ ?_
   have set_true:∀(l:List Bool)(i:Nat),l[0]?=ś ť->(l.set i ť)[0]?=ś true:=λl i h=>by
    grind
   grind[uf]
theorem Au(N):(mz N).length=95/\(mz N)[0]?=ś ť/\∀c<95,(mz N)[c]?=ś ğ->∀e∈N.edges,loE e<=hiE e->loE e≠c+32/\(hiE e<126->hiE e+1≠c+32):=by
 obtain⟨h1,h2⟩:=PZ N.edges ((zAd 95 ğ).set 0 ť) (by simp)
 exact⟨h1,PY _ _ (by rfl),λc hc h=>(h2 c hc h).2⟩
theorem X0{N}(h:N.ok){c}(hc:c+1<95)(hb:(mz N)[c+1]?=ś ğ)(q):ct (gX N) (c+1) q=ct (gX N) c q:=by
 obtain⟨h1,h2⟩:=vt h;refine aan (BZ h1 (by omega) q) (BZ h1 (by omega) q) λp hp=>?_
 rw[Bool.eq_iff_iff,h2 (c+1) q (by omega) p hp,h2 c q (by omega) p hp]
 have key:∀e∈N.edges,sF e (c+1)=sF e c:=λe he=>by
  have hlo:32<=loE e:=by grind[loE]
  have hhi:hiE e<=126:=by grind[hiE]
  simp only[sF];refine decide_eq_decide.2 ?_;grind[zAe,hiE,loE,Au]
 grind
theorem Vh{f g}(h:∀q,f q=g q)(i)(s out):vU f i s out=vU g i s out:=by
 have:f=g:=funext h;rw[this]
end Go.Abs
end
section
set_option maxHeartbeats 1000000
set_option maxRecDepth 100000
namespace Go.Abs
open Go.Proofs Go.Aut
attribute [-simp] getElem?_pos zDc zEe
theorem Pe{K e step most}:∀(f i:Nat)(l:List K)(rows:List (List Nat))(r:List K×List (List Nat)),l.length<=most+1->de e step most f i l rows=ś r->r.1.length<=most+1
 |0,_,_,_,_,_,h=>by simp[de]at h
 |f+1,i,l,rows,r,hl,h=>by
   simp only[de]at h;split at h
   ·cases h;exact hl
   ·split at h
    ·cases h
    ·exact Pe f _ _ _ _ (by omega) h
def ofP(N:Net):Option Aut:=match FN eqB (eM (gX N)) (cj N N.start) 500 with
 |none=>none
 |some (list,rows)=>WA rows (list.map λs=>bB s N.stop)
theorem af1{N}(h:N.ok)(hl:N.edges.length<=1000000){b}(hb:ofP N=ś b):Fn ŷ Vv [.strct (Net.c N)] (.tup [.strct (Aut.c b),.int .i64 0]):=by
 refine yoE afH ?_;unfold Xk;have hle:=h.le;unfold ofP at hb;split at hb
 ·cases hb
 rename_i list rows hw;obtain⟨hT1,hT2⟩:=vt h;obtain⟨hB1,hB2,hB3⟩:=Au N;obtain⟨t,htd⟩:∃t,t=gX N:=⟨_,rfl⟩;obtain⟨bd,hbd⟩:∃bd,bd=mz N:=⟨_,rfl⟩;have hsame:=λc hc hb q=>X0 h (c:=c) hc hb q;rw[<-htd]at hT1 hT2 hw hsame;rw[<-hbd]at hB1 hB2 hB3 hsame;have htl:=hT1.len;have htok:stepsOK t:=⟨by omega,hT1.rows⟩
 have hin:∀q c,c<95->∀p<512,bB (ct t c q) p=ť->p<t.length:=λq c hc p hp hh=>by
  obtain⟨e,he,_,_,h5⟩:=(hT2 c q hc p hp).1 hh;have:=LB h (h.ends e he).2.1 hp h5;omega
 have hD0:dSet t.length (cj N N.start):=⟨iQ h h.start,λp hp hh=>by have:=LB h h.start hp hh;omega⟩
 have hbn:∀c,c+1<95->bd[c+1]?=ś ğ->∀s,dSet t.length s->eM t s (c+1)=eM t s c:=λc hc hf s _=>Vh (hsame c hc hf) _ _ _
 have hdn:∀s c,dSet t.length s->c<95->dSet t.length (eM t s c):=λs c hs hc=>by
  obtain⟨g1,g2⟩:=vT hs.ok λq _=>htok.set hc q;refine⟨g1,λp hp hh=>?_⟩;obtain⟨r,hr,h1,h2⟩:=(g2 p hp).1 hh;grind
 obtain⟨hw1,hw2,hw3,hw4,hw5,hw6⟩:=D9 hdn hD0 hw;have hwalk:=WM bd hB1 t htok hin hB2 hbn eK rfl 500 (by omega) (cj N N.start) hD0 list rows hw
 have hlist:list.length<=501:=Pe _ _ _ _ _ (by simp) hw
 obtain⟨LL,hLL⟩:∃LL,LL=Qa t list eK list.length:=⟨_,rfl⟩;rw[<-hLL]at hwalk;have hm:=Qu h hl;have hst:=OZ h hl;have hbo:=O1 h hl;have hcl:=Df h hl h.start;obtain⟨hcl1,hcl2⟩:=tJ h h.start;have hso:=GC _ hcl1 hcl2;rw[show Q5 (j7 N.edges N.n N.start)=cj N N.start from rfl]at hso
 rw[<-htd]at hst;rw[<-hbd]at hbo;have hf95:zBh 95 (zAd 95 (V.bool ğ))=[]:=zAf (by simp)
 simp at hm hst hbo hcl;simp;refine aa hm rfl λ_=>?_;simp;refine az hst (by simp) ?_
 simp;refine aw hbo (by simp) ?_
 simp;refine cd ⟨[(1,.ptr 0 0),(2,.ptr 1 0),(4,.ptr 2 0),(5,.ptr 3 0)],[ś (.box (Net.c N)),ś (.box [.nil 1,.nil 1]),ś (.box [dh t]),ś (.box (bd.map V.bool))]⟩ (λF hF=>?_) ?_
 ·simp_all[QU.mk,zAa]
 simp;refine ae hcl (by simp) λ_=>?_
 simp;refine aa hso (by simp) λ_=>?_
 simp[FG];refine am [1] 3 [3,2,4] (by simp) (by simp) (by simp[bL]) (by simp) hwalk (by simp) λ_ _=>?_
 simp(disch:=omega);obtain⟨n,hn⟩:∃n,n=list.length:=⟨_,rfl⟩;obtain⟨fs,hfs⟩:∃fs,fs=list.map λs=>bB s N.stop:=⟨_,rfl⟩;have hfl:fs.length=n:=by simp[hfs,hn]
 rw[<-hfs]at hb
 have haok:(Aut.mk rows fs).ok:=by
  obtain⟨h3,tt,h4⟩:=om dV hdn _ _ _ _ _ _ (sA hD0) hw;grind[BL,bB]
 have hform:=ZD haok (by grind[Aut.n]) hb
 simp at hform;rw[<-hn]at hlist hw1⊢
 refine ah (λk:Nat=>⟨[(1,.ptr 0 0),(2,.ptr 1 0),(9,.ref 2 n),(11,.ref 3 n),(41,.ref 4 n),(42,.int .i64 n),(43,nV k)],[ś (.box (Net.c N)),ś (.box [.nil 1,.nil 1]),ś (.arr aN 1 (rows.map di)),ś (.arr aH 1 (j2 V.bool ğ n (fs.take k))),ś (.arr cr 8 (list.map bL))]⟩)
  (λk=>k<=n) (λk=>n-k) [] _ 0 rfl (by simp[<-E7,hw1]) (by simp) ?_
 intro k hk M hM;rcases zAe k n with hlt|hge
 ·obtain⟨q,hq⟩:=av (l:=list) (k:=k) (by omega)
  have hqd:=hw4 q (zAb hq);have hql:=hqd.ok.len;have hx:fs[k]?=ś (bB q N.stop):=by simp[hfs,hq]
  have hak:(fs.take k).length=k:=by simp;omega
  have hfl:=E8 (f:=V.bool) (d:=ğ) (n:=n) (acc:=fs.take k) (by omega)
  have hg:=E9 (f:=V.bool) (d:=ğ) (n:=n) (acc:=fs.take k) (by omega)
  have hs:=E6 (f:=V.bool) (d:=ğ) (n:=n) (acc:=fs.take k) (by omega) (bB q N.stop)
  rw[hak]at hg hs;rw[<-bk hx]at hs;have hhas:=ac2 q hqd.ok N.stop (by have:=h.stop;omega)
  have h8q:zAj 8 (q.map aV)=q.map aV:=zAc (by simp;omega)
  have hz:eK.length=8:=rfl;have hzd:zBh 8 (eK.map aV)=[]:=rfl;simp at hhas;simp(disch:=omega) [hq,bL,hql,h8q,hzd];refine aa hhas rfl λ_=>?_;simp(disch:=omega) [hg,hs];exact hM.out _<|Nx.mk (k+1) (by simp) (by omega) (by omega)
 ·have:k=n:=by omega
  subst this;have hff:j2 V.bool ğ k (fs.take k)=fs.map V.bool:=by grind[zAc,Bm]
  simp[hff,hw1,hfl];refine dC hform λ_=>?_;simp_all[zAa,Aut.c]
end Go.Abs
end
section
set_option maxRecDepth 100000
namespace Go.Abs
open Go.Proofs
def lkD:List (Nat×FD)->Nat->Option FD
 |[],_=>none
 |(k,D)::l,f=>if k=f then ś D else lkD l f
theorem R4{f D}:∀{l:List (Nat×FD)},lkD l f=ś D->(f,D)∈l
 |[],h=>by simp[lkD]at h
 |(k,E)::l,h=>by
   simp only[lkD]at h;split at h
   ·rename_i he;subst he;cases h;simp
   ·exact List.mem_cons_of_mem _ (R4 h)
theorem eZ(c):∀s:Str,Lib.indexByte s c<(s.length:Int)+1/\(0<=Lib.indexByte s c->Lib.indexByte s c<s.length)
 |[]=>by simp[Lib.indexByte]
 |b::l=>by
   have:=eZ c l;grind[Lib.indexByte,List.length_cons]
theorem cF(s:Str)(c):Fn ŷ b9 [.str s,.int .u8 c.toNat] (.int .i64 (Lib.indexByte s c)):=by
 refine Fn.ext Tryz.func243 (by kernel_rfl) (by kernel_rfl) (by kernel_rfl) (e:=Extern.BytealgIndexByte.indexByte) (by kernel_rfl) ?_
 intro M w cs hM hus;obtain⟨cl⟩:=cs;simp only[af]at hus;obtain⟨_,_,rfl,⟨bs,rfl,rfl,_⟩,_,_,rfl,⟨rfl,_⟩,rfl⟩:=hus;refine⟨_,Lib.run_indexByteString bs (c.toNat:Int) w,?_⟩;have hc:((c.toNat:Int)).toNat.toUInt8=c:=by simp
 rw[hc];simp only[rep];have h1:=Lib.indexByte_ge bs.data.toList c;have h2:=eZ c bs.data.toList;refine⟨trivial,?_,?_⟩
 ·simp;omega
 ·simp;omega
noncomputable def aep:List (Nat×FD):=[
 (vY,⟨zOb wo,[.t 2],1,[]⟩),
 (Ga,⟨zOb Gn,[.t 2],1,[]⟩),
 (Mf,⟨zOb MW,[.c 0 95 ť],0,[]⟩),
 (vW,⟨zOb wm,[.c 2 95 ť],1,[]⟩),
 (Ck,⟨zOb CG,[.c 2 95 ť],1,[]⟩),
 (vX,⟨zOb wn,[.t 2],1,[]⟩),
 (yB,⟨zOb yI,[.t 4],2,[]⟩),
 (dP,⟨zOb dS,[.t 4],2,[]⟩)]
noncomputable def aes:List (Nat×FD):=[
 (aM,⟨zOc MX,[.t 2,.t 3],1,[]⟩),
 (dE,⟨zOc oW,[.c 2 4 ť],1,[]⟩),
 (zg,⟨zOb zm,[.t 2],1,[]⟩),
 (oH,⟨zOc oV,[.t 2,.t 3],1,[0]⟩),
 (sX,⟨zOc td,[.t 2,.t 3],1,[0]⟩),
 (AP,⟨zOc A0,[.t 4],2,[0]⟩),
 (v6,⟨zOc wu,[.t 2,.t 3],1,[0]⟩),
 (vZ,⟨zOc wq,[.t 4,.t 5],2,[0]⟩),
 (uV,⟨zOc uZ,[.t 2,.t 3],1,[0]⟩),
 (g8,⟨zOc hO,[],4,[0]⟩),
 (lS,⟨zOc l4,[.t 2],1,[0]⟩),
 (mU,⟨zOc mX,[],3,[0]⟩),
 (t7,⟨zOc uh,[],4,[1]⟩),
 (ua,⟨zOc uj,[],4,[1]⟩),
 (ub,⟨zOc uk,[],4,[1]⟩),
 (t8,⟨zOc ui,[],4,[1]⟩),
 (rJ,⟨zOc rQ,[.t 4],2,[0]⟩)]
def ajq(f:FuncId)(us:List V):Option V:=if f=b9 then(match us with
 |[.str s,.int .u8 n]=>if(zEg n.toNat).toNat=n then ś (.int .i64 (Lib.indexByte s (zEg n.toNat)))else none
 |_=>none)else none
noncomputable def IN:FTab:=⟨lkD aep,lkD aes,ajq⟩
theorem aeo:∀x∈aep,Img ŷ x.1 x.2/\x.2.ps=[]:=by
 intro x hx;simp only[aep,zDa,zFa,or_false]at hx;rcases hx with rfl|rfl|rfl|rfl|rfl|rfl|rfl|rfl
 ·exact⟨Img.of_image wo.1 wo.2,rfl⟩
 ·exact⟨Img.of_image Gn.1 Gn.2,rfl⟩
 ·exact⟨Img.of_image MW.1 MW.2,rfl⟩
 ·exact⟨Img.of_image wm.1 wm.2,rfl⟩
 ·exact⟨Img.of_image CG.1 CG.2,rfl⟩
 ·exact⟨Img.of_image wn.1 wn.2,rfl⟩
 ·exact⟨Img.of_image yI.1 yI.2,rfl⟩
 ·exact⟨Img.of_image dS.1 dS.2,rfl⟩
theorem aer:∀x∈aes,Img ŷ x.1 x.2:=by
 intro x hx;simp only[aes,zDa,zFa,or_false]at hx;rcases hx with rfl|rfl|rfl|rfl|rfl|rfl|rfl|rfl|rfl|rfl|rfl|rfl|rfl|rfl|rfl|rfl|rfl
 ·exact Img.of_imageE MX.1 MX.2
 ·exact Img.of_imageE oW.1 oW.2
 ·exact Img.of_image zm.1 zm.2
 ·exact Img.of_imageE oV.1 oV.2
 ·exact Img.of_imageE td.1 td.2
 ·exact Img.of_imageE A0.1 A0.2
 ·exact Img.of_imageE wu.1 wu.2
 ·exact Img.of_imageE wq.1 wq.2
 ·exact Img.of_imageE uZ.1 uZ.2
 ·exact Img.of_imageE hO.1 hO.2
 ·exact Img.of_imageE l4.1 l4.2
 ·exact Img.of_imageE mX.1 mX.2
 ·exact Img.of_imageE uh.1 uh.2
 ·exact Img.of_imageE uj.1 uj.2
 ·exact Img.of_imageE uk.1 uk.2
 ·exact Img.of_imageE ui.1 ui.2
 ·exact Img.of_imageE rQ.1 rQ.2
theorem nf:TabOK ŷ IN:=by
 refine⟨λf D h=>aeo _ (R4 h),λf D h=>aer _ (R4 h),λf us r h=>?_⟩;simp only[IN,ajq]at h;split at h
 ·rename_i hf
  subst hf;split at h
  ·split at h
   ·rename_i s n hn
    cases h;have:=cF s (zEg n.toNat);rwa[hn]at this
   ·cases h
  ·cases h
 ·cases h
end Go.Abs
end
