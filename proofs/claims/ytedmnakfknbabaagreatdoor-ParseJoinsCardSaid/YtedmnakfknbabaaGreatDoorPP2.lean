/- Plain: where a raw element ends. No condition. -/
import Derived.Test.YtedmnakfknbabaaGreatDoorPF1
import Derived.Lib.IndexMore
import Derived.Test.YtedmnakfknbabaaGreatDoorPW2
import Derived.Test.YtedmnakfknbabaaGreatDoorPP1
set_option linter.all false
set_option maxHeartbeats 0
set_option maxRecDepth 100000
open List renaming reduceReplicate→zAa,drop_eq_getElem_cons→zAc,drop_drop→zAd,drop_succ_cons→zAe,map_map→zAi
open Prod.mk renaming injEq→zAb
open Option renaming not_isSome→zAf
open Bool renaming eq_iff_iff→zAg
open Nat renaming add_comm→zAh
open List.cons renaming injEq→zAj
section
namespace Go.Abs.F
open Go.Proofs
def jv:Str->Str->Bool
 |_,[]=>true
 |[],_::_=>false
 |b::s,c::w=>decide (aH b=c)&&jv s w
theorem n9:∀(w s:Str),s.length<w.length->jv s w=false
 |[],s,h=>by simp at h
 |c::w,[],_=>rfl
 |c::w,b::s,h=>by simp only[jv,n9 w s (by simpa using h),Bool.and_false]
theorem jV:∀(w s:Str),jv s w=decide ((s.take w.length).map aH=w)
 |[],s=>by cases s<;>simp[jv]
 |c::w,[]=>by simp[jv]
 |c::w,b::s=>by simp[jv,jV w s,Bool.decide_and]
theorem m7{b c:UInt8}(hc:¬(97<=c.toNat/\c.toNat<=122))(h:aH b=c):b=c:=by
 unfold aH at h;split at h
 ·rename_i hb
  exfalso;apply hc;rw[<-h,aV (by omega)]
  omega
 ·exact h
def iG:Option UInt8->Bool
 |some c=>rQ c
 |none=>false
theorem oO(nm u:Str):ci nm (60::47::u)=(jv u nm&&iG u[nm.length]?):=by
 have e1:aH 60=60:=by decide
 have e2:aH 47=47:=by decide
 unfold ci;rw[zAh 2 nm.length,jV];simp[e1,e2];cases u[nm.length]?<;>rfl
theorem HB(nm s:Str)(h:Lib.occAt s [60,47] 0=false):ci nm s=false:=by
 unfold ci;rw[Bool.and_eq_false_iff];left;rw[decide_eq_false_iff_not];intro hh;rw[zAh 2 nm.length]at hh
 match s with
 |[]=>simp at hh
 |[b]=>simp at hh
 |b::c::u=>
   simp only[List.take_succ_cons,List.map_cons,List.cons_append,List.nil_append,zAj]at hh;have h1:=m7 (by decide) hh.1
   have h2:=m7 (by decide) hh.2.1
   subst h1 h2;simp[Lib.occAt]at h
theorem oK(nm:Str):∀(m:Nat)(s:Str)(k:Nat),m<=s.length->(∀j,j<m->Lib.occAt s [60,47] j=false)->a8 nm k s=a8 nm (k+m) (s.drop m)
 |0,s,k,_,_=>by simp
 |m+1,[],k,h,_=>by simp at h
 |m+1,b::t,k,h,ho=>by
   have h0:=HB nm (b::t) (ho 0 (by omega))
   simp only[a8,h0,Bool.false_eq_true,if_false,zAe];rw[oK nm m t (k+1) (by simpa using h) (fun j hj=>by have:=ho (j+1) (by omega);simpa[Lib.occAt]using this)]
   congr 1;omega
theorem Hy(nm s:Str)(k:Nat)(h:∀j,j<=s.length->Lib.occAt s [60,47] j=false):a8 nm k s=-1:=by
 rw[oK nm s.length s k (Nat.le_refl _) (fun j hj=>h j (by omega)),List.drop_length]
 rfl
theorem My(nm u:Str)(k:Nat):a8 nm k (60::47::u)=if(jv u nm&&iG u[nm.length]?)=true then(k:Int)else a8 nm (k+2) u:=by
 have h0:ci nm (47::u)=false:=HB nm _ (by simp[Lib.occAt,List.isPrefixOf])
 rw[a8,oO,a8,h0];rfl
theorem Oy{s:Str}{i:Nat}(h:Lib.occAt s [60,47] i=true):∃u,s.drop i=60::47::u:=by
 unfold Lib.occAt at h
 match hs:s.drop i with
 |[]=>rw[hs]at h;simp at h
 |[b]=>rw[hs]at h;simp at h
 |b::c::u=>
   rw[hs]at h;simp at h;exact⟨u,by rw[<-h.1,<-h.2]⟩
theorem rx(w:Str)(hw:w≠[]):∀s:Str,gg w s=decide (0<=Lib.index s w)
 |[]=>by
   cases w with
   |nil=>exact(hw rfl).elim
   |cons c w=>simp[gg,bq,Lib.index]
 |b::t=>by
   have ih:=rx w hw t;have hge:=Lib.index_ge t w;have e:Lib.index (b::t) w=if w.isPrefixOf (b::t)then 0 else if Lib.index t w == -1 then -1 else Lib.index t w+1:=rfl
   have hb:bq (b::t) w=w.isPrefixOf (b::t):=by
    rw[zAg];simp only[bq,Bool.and_eq_true,decide_eq_true_eq,List.isPrefixOf_iff_prefix];constructor
    ·rintro⟨h1,h2⟩;rw[<-h2];exact List.take_prefix _ _
    ·intro h;exact⟨h.length_le,(List.prefix_iff_eq_take.1 h).symm⟩
   rw[zAg];simp only[gg,ih,hb,Bool.or_eq_true,decide_eq_true_eq];rw[e];by_cases h:w.isPrefixOf (b::t)=true
   ·simp[h]
   ·rw[if_neg h]
    by_cases h1:Lib.index t w=-1
    ·simp[h,h1]
    ·rw[if_neg (by simpa using h1)]
     have:0<=Lib.index t w:=by omega
     simp[this];omega
end Go.Abs.F
end
section
namespace Go.Abs.F
open Go.Proofs
attribute [-simp] getElem?_pos zAf zAi
theorem vL(b:UInt8):Fn Tryz.prog FSQ [.int .u8 b.toNat] (.int .u8 (aH b).toNat):=by
 refine Fn.of_image mixed GG Gk rfl fun ho=>?_;unfold vT;simp only[oks,ok,and_true]at ho;have hb:=b.toNat_lt;by_cases h:65<=b.toNat/\b.toNat<=90
 ·have e:(aH b).toNat=b.toNat+32:=by simp[aH,h,aV (show b.toNat+32<256 by omega)]
  rw[e];simp(disch:=omega) [-zAa,h]
  repeat' (first|(refine BrKd.mk (fun h=>?_) (fun h=>?_)<;>simp(disch:=omega) [*])|(refine BrK.mk (fun h=>?_) (fun h=>?_)<;>simp(disch:=omega) [*]))
  all_goals omega
 ·have e:aH b=b:=by simp only[aH,if_neg h]
  rw[e];simp(disch:=omega) [-zAa]
  repeat' (first|(refine BrKd.mk (fun h=>?_) (fun h=>?_)<;>simp(disch:=omega) [*])|(refine BrK.mk (fun h=>?_) (fun h=>?_)<;>simp(disch:=omega) [*]))
  all_goals omega
theorem Er(s w:Str):Fn Tryz.prog C6 [.str s,.str w] (.bool (jv s w)):=by
 refine Fn.of_image mixed DY DC rfl fun ho=>?_;unfold tB;simp only[oks,ok,and_true]at ho;obtain⟨ho1,ho2⟩:=ho;generalize hr:jv s w=r;simp(disch:=omega) [-zAa];refine BrKd.mk (fun h=>?_) (fun h=>?_)
 ·simp(disch:=omega) [-zAa,h]
  rw[<-hr,n9 w s (by omega)]
 ·simp(disch:=omega) [-zAa,h]
  refine ay (fun k:Nat=>⟨[(0,.str s),(1,.str w),(12,.int .i64 w.length),(13,.int .i64 k)],[]⟩) (fun k=>k<=w.length/\jv (s.drop k) (w.drop k)=r) (fun k=>w.length-k) [] _ 0 rfl (by simp) (by simp[hr]) ?_
  rintro k ⟨hk,hi⟩ N hN;rcases place w k hk with⟨he,hd⟩|⟨hlt,x,hx,hd⟩
  ·rw[hd]at hi
   simp(disch:=omega) [-zAa,he];cases hs:s.drop k<;>simpa[hs,jv]using hi
  ·obtain⟨y,hy⟩:=bH (l:=s) (k:=k) (by omega)
   have hds:s.drop k=y::s.drop (k+1):=by
    rw[zAc (by omega)]
    have:s[k]?=some (s[k]'(by omega)):=List.getElem?_eq_getElem _
    rw[this]at hy;cases hy;rfl
   rw[hd,hds]at hi;simp only[jv]at hi;replace hi:=hid hi;simp(disch:=omega) [-zAa,hx,hy];refine a6 (vL y) rfl ?_;simp(disch:=omega) [-zAa,hx,hy];refine BrKd.mk (fun h=>?_) (fun h=>?_)
   ·simp(disch:=omega) [-zAa,h]
    have hi:=hi.out;have:aH y=x:=by apply UInt8.toNat_inj.1;omega
    refine hN.out _<|Nx.mk (k+1) (by simp) ⟨by omega,by simpa[this]using hi⟩ (by omega)
   ·have:¬aH y=x:=by intro h';rw[h']at h;simp at h
    simp(disch:=omega) [-zAa,h];have hi:=hi.out;simpa[this]using hi
theorem AY(b:UInt8):Fn Tryz.prog iE [.int .i32 b.toNat] (.bool (Ct b)):=by
 refine Fn.of_image mixed qj qi rfl fun ho=>?_;unfold lQ;simp only[oks,ok,and_true]at ho;have hb:=b.toNat_lt;simp(disch:=omega) [-zAa,Ct]
 repeat' (first|(refine BrKd.mk (fun h=>?_) (fun h=>?_)<;>simp(disch:=omega) [*])|(refine BrK.mk (fun h=>?_) (fun h=>?_)<;>simp(disch:=omega) [*]))
theorem yT(s:Str)(hs:s.length<=1000000000):Fn Tryz.prog OC [.str s] (.bool (right s)):=by
 refine Fn.of_image mixed Pa O5 rfl fun ho=>?_;unfold HL;simp only[oks,ok,and_true]at ho;clear ho;rw[Lq];simp(disch:=omega) [-zAa,isU];refine ac (rI s (by omega)) rfl fun _=>?_
 simp(disch:=omega) [-zAa];refine BrK.mk (fun h=>?_) (fun h=>?_)
 ·simp(disch:=omega) [-zAa,h]
  generalize hr:((b9 s).all fun r=>!decide (r=0)&& !decide (r=13))=R;refine ay (fun k:Nat=>⟨[(9,.ref 0 0)],[some (.itr s k)]⟩) (fun k=>k<=s.length/\((b9 (s.drop k)).all fun r=>!decide (r=0)&& !decide (r=13))=R) (fun k=>s.length-k) [] _ 0 rfl (by simp) (by simp[hr]) ?_
  rintro k ⟨hk,hi⟩ N hN;by_cases hlt:k<s.length
  ·have hdo:=oP s k hlt
   obtain⟨b,t,hd⟩:∃b t,s.drop k=b::t:=by
    cases hd:s.drop k with
    |nil=>have:=congrArg List.length hd;simp at this;omega
    |cons b t=>exact⟨b,t,rfl⟩
   rw[hd]at hdo hi;rw[eC,<-hdo,<-hd,zAd]at hi;have hor:=cR (b::t);have hlen:=hor.2.2.1 (by simp)
   rw[<-hdo]at hor hlen;have hlen2:(b::t).length=s.length-k:=by rw[<-hd];simp
   simp only[List.all_cons]at hi;replace hi:=hid hi;clear hdo;simp(disch:=omega) [-zAa,hlt]
   repeat' (first|(refine BrKd.mk (fun h=>?_) (fun h=>?_)<;>simp(disch:=omega) [*])|(refine BrK.mk (fun h=>?_) (fun h=>?_)<;>simp(disch:=omega) [*]))
   all_goals first
    |omega
    |(refine hN.out _<|Nx.mk (k+(oQ s k).2) (by simp[*]) ⟨by omega,?_⟩ (by omega);have hi:=hi.out;simpa(disch:=omega) [*]using hi)
    |(have hi:=hi.out;simpa(disch:=omega) [*]using hi)
  ·have hkl:k=s.length:=by omega
   subst hkl;simp(disch:=omega) [-zAa];simpa[b9,d8]using hi
 ·simp(disch:=omega) [-zAa,h]
end Go.Abs.F
end
section
namespace Go.Abs.F
open Go.Proofs Go.RowKit
attribute [-simp] getElem?_pos zAf zAi
def ai(p:Nat->Bool)(s:Str):Nat:=(s.takeWhile fun b=>p b.toNat).length
theorem b7(p:Nat->Bool)(s:Str):ai p s<=s.length:=by
 unfold ai;exact(List.takeWhile_sublist _).length_le
theorem bJ(p:Nat->Bool)(b:UInt8)(t:Str):ai p (b::t)=if p b.toNat=true then ai p t+1 else 0:=by
 unfold ai;simp only[List.takeWhile_cons];split<;>simp_all
theorem qW(p:Nat->Bool):∀(n:Nat)(s:Str),n<=s.length->(∀i b,i<n->s[i]?=some b->p b.toNat=true)->ai p s=n+ai p (s.drop n)
 |0,s,_,_=>by simp
 |n+1,[],h,_=>by simp at h
 |n+1,b::t,h,hp=>by
   rw[bJ,if_pos (hp 0 b (by omega) rfl),qW p n t (by simpa using h) (fun i c hi hc=>hp (i+1) c (by omega) (by simpa using hc))]
   simp only[zAe];omega
theorem vI:∀{l:Str}{v w:Nat},goV l v=some w->∀c∈l,128<=c.toNat
 |[],_,_,_,c,hc=>by cases hc
 |b::l,v,w,h,c,hc=>by
   simp only[goV]at h;split at h
   ·rename_i hb
    rcases List.mem_cons.1 hc with rfl|hc
    ·exact(yP hb).1
    ·exact vI h c hc
   ·cases h
theorem BO{b:UInt8}{t:Str}(hb:128<=b.toNat):∀i c,i<(one (b::t)).2->(b::t)[i]?=some c->128<=c.toNat:=by
 intro i c hi hc;cases i with
 |zero=>simp at hc;subst hc;exact hb
 |succ i=>
   simp only[one]at hi;rw[if_neg (by omega)]at hi
   split at hi
   ·simp at hi
   ·unfold oa at hi
    split at hi
    ·simp at hi
    ·rename_i v hv
     split at hi
     ·simp at hi
     ·simp only at hi
      refine vI hv c ?_;simp only[List.getElem?_cons_succ]at hc;refine List.mem_of_getElem? (i:=i) ?_;rw[List.getElem?_take,if_pos (by omega)]
      exact hc
theorem Lk{p:Nat->Bool}(s:Str)(k:Nat)(hlt:k<s.length)(hc:∀r r',128<=r->128<=r'->p r=p r'):
 ∃r n,oQ s k=(r,n)/\1<=n/\r<=1114111/\(p r=true->ai p (s.drop k)=n+ai p (s.drop (k+n)))/\(p r=false->ai p (s.drop k)=0)/\n<=s.length-k:=by
 obtain⟨x,hd⟩:∃x,s.drop k=x::s.drop (k+1):=⟨s[k],by rw[zAc hlt]⟩
 have hdo:=oP s k hlt;rw[hd]at hdo;have hor:=cR (x::s.drop (k+1));have hob:=BO (b:=x) (t:=s.drop (k+1));have hhi:=Iw (b:=x) (t:=s.drop (k+1));have hlo:=Iv (b:=x) (t:=s.drop (k+1));have hlen:=hor.2.2.1 (by simp)
 obtain⟨r,n,hrn⟩:∃r n,one (x::s.drop (k+1))=(r,n):=⟨_,_,rfl⟩;rw[hrn]at hdo hor hob hhi hlo hlen;simp only at hor hob hhi hlen
 have hpx:p r=p x.toNat:=by
  by_cases h:x.toNat<128
  ·have:=hlo h
   simp only[zAb]at this;rw[this.1]
  ·exact hc _ _ (hhi (by omega)) (by omega)
 have hall:p r=true->∀i b,i<n->(s.drop k)[i]?=some b->p b.toNat=true:=by
  intro hp i b hi hb;by_cases h:x.toNat<128
  ·have h1:=hlo h
   simp only[zAb]at h1;have:i=0:=by omega
   subst this;rw[hd]at hb;simp at hb;subst hb;rw[<-hpx];exact hp
  ·rw[hd]at hb
   rw[hc b.toNat r (hob (by omega) i b hi hb) (hhi (by omega))]
   exact hp
 have hlen2:n<=(s.drop k).length:=by rw[hd];exact hlen
 refine⟨r,n,hdo,hor.1,hor.2.2.2.1,fun hp=>?_,fun hp=>?_,by simpa using hlen2⟩
 ·rw[qW p n (s.drop k) hlen2 (hall hp),zAd]
 ·rw[hd,bJ,<-hpx,if_neg (by simp[hp])]
theorem gJ(s:Str)(hs:s.length<=1000000000)(f:Nat)(b:List V)(p:Nat->Bool)(hg:∀r,r<=1114111->Fn Tryz.prog f (rV r::b) (.bool (p r)))(hc:∀r r',128<=r->128<=r'->p r=p r')
 (hb:∀h,purs h b=some b) (hv:am b=[]) (hr:∀m,jH m b=b):Fn Tryz.prog eU [.str s,.fn (.func f) [] b] (.int .i64 (ai p s)):=by
 refine Fn.of_image mixed DZ DD rfl fun ho=>?_;unfold tC;simp only[oks,ok,and_true]at ho;clear ho;simp(disch:=omega) [-zAa];generalize hR:ai p s=R
 refine ay (fun(k:Nat)=>⟨[(0,.str s),(1,.fn (.func f) [] b),(8,.ref 0 0)],[some (.itr s k)]⟩)
  (fun k=>k<=s.length/\k+ai p (s.drop k)=R) (fun k=>s.length-k) [] _ 0 rfl (by simp[hv,hr]) (by simp[hR]) ?_
 rintro k ⟨hk,hi⟩ N hN;rcases place s k hk with⟨he,hd⟩|⟨hlt,x,hx,hd⟩
 ·rw[hd]at hi
  simp[ai]at hi;subst hi;simp(disch:=omega) [-zAa,he]
 ·have hdo:=oP s k hlt
  rw[hd]at hdo;have hor:=cR (x::s.drop (k+1));have hob:=BO (b:=x) (t:=s.drop (k+1));have hhi:=Iw (b:=x) (t:=s.drop (k+1));have hlo:=Iv (b:=x) (t:=s.drop (k+1));have hlen:=hor.2.2.1 (by simp)
  obtain⟨r,n,hrn⟩:∃r n,one (x::s.drop (k+1))=(r,n):=⟨_,_,rfl⟩;rw[hrn]at hdo hor hob hhi hlo hlen;simp only at hor hob hhi hlen
  have hpx:p r=p x.toNat:=by
   by_cases h:x.toNat<128
   ·have:=hlo h
    simp only[zAb]at this;rw[this.1]
   ·exact hc _ _ (hhi (by omega)) (by omega)
  have hall:p r=true->∀i b,i<n->(s.drop k)[i]?=some b->p b.toNat=true:=by
   intro hp i b hi hb;by_cases h:x.toNat<128
   ·have h1:=hlo h
    simp only[zAb]at h1;have:i=0:=by omega
    subst this;rw[hd]at hb;simp at hb;subst hb;rw[<-hpx];exact hp
   ·rw[hd]at hb
    rw[hc b.toNat r (hob (by omega) i b hi hb) (hhi (by omega))]
    exact hp
  have hlen2:n<=(s.drop k).length:=by rw[hd];exact hlen
  have hskip:p r=true->ai p (s.drop k)=n+ai p (s.drop (k+n)):=fun hp=>by
   rw[qW p n (s.drop k) hlen2 (hall hp),zAd]
  have hstop:p r=false->ai p (s.drop k)=0:=fun hp=>by
   rw[hd,bJ,<-hpx,if_neg (by simp[hp])]
  simp only[List.length_drop]at hlen2;replace hi:=hid hi;simp(disch:=omega) [-zAa,hlt,hdo,hb];refine ac (hg r (by omega)) rfl fun _=>?_
  simp(disch:=omega) [-zAa];refine BrK.mk (fun h=>?_) (fun h=>?_)
  ·have hi:=hi.out
   rw[hskip h]at hi;exact hN.out _<|Nx.mk (k+n) (by simp[hv,hr]) ⟨by omega,by omega⟩ (by omega)
  ·have hi:=hi.out
   rw[hstop h]at hi;simp(disch:=omega) [-zAa];omega
def bB(r:Nat):Bool:=(decide (65<=r)&&decide (r<=90))||(decide (97<=r)&&decide (r<=122))
def bd(r:Nat):Bool:=decide (r=9)||(decide (r=10)||(decide (r=12)||decide (r=32)))
def bU(r:Nat):Bool:=bB r||(decide (48<=r)&&decide (r<=57))||decide (r=45)
def bZ(r:Nat):Bool:=bd r||decide (r=47)||decide (r=61)
def aQ(r:Nat):Bool:=!bd r&& !decide (r=47)&& !decide (r=62)&& !decide (r=61)
def cJ(q r:Nat):Bool:=!decide (r=q)
def mA(r:Nat):Bool:=!bd r&& !decide (r=62)
theorem ky(r:Nat):Fn Tryz.prog x7 [rV r] (.bool (bB r)):=by
 refine Fn.of_image mixed yA ym rfl fun ho=>?_;unfold oW;simp only[oks,ok,and_true]at ho;simp(disch:=omega) [-zAa,rV,bB]
 repeat' (first|(refine BrKd.mk (fun h=>?_) (fun h=>?_)<;>simp(disch:=omega) [*])|(refine BrK.mk (fun h=>?_) (fun h=>?_)<;>simp(disch:=omega) [*]))
 all_goals omega
theorem gK(r:Nat):Fn Tryz.prog iE [rV r] (.bool (bd r)):=by
 refine Fn.of_image mixed qj qi rfl fun ho=>?_;unfold lQ;simp only[oks,ok,and_true]at ho;simp(disch:=omega) [-zAa,rV,bd]
 repeat' (first|(refine BrKd.mk (fun h=>?_) (fun h=>?_)<;>simp(disch:=omega) [*])|(refine BrK.mk (fun h=>?_) (fun h=>?_)<;>simp(disch:=omega) [*]))
theorem Mv(r:Nat):Fn Tryz.prog nu [rV r] (.bool (bU r)):=by
 refine Fn.of_image mixed wK wC rfl fun ho=>?_;unfold nz;simp only[oks,ok,and_true]at ho;simp(disch:=omega) [-zAa,rV,bU];refine ac (ky r) rfl fun _=>?_;simp(disch:=omega) [-zAa]
 repeat' (first|(refine BrKd.mk (fun h=>?_) (fun h=>?_)<;>simp(disch:=omega) [*])|(refine BrK.mk (fun h=>?_) (fun h=>?_)<;>simp(disch:=omega) [*]))
theorem A7(r:Nat):Fn Tryz.prog fk [rV r] (.bool (bZ r)):=by
 refine Fn.of_image mixed pW pQ rfl fun ho=>?_;unfold jy;simp only[oks,ok,and_true]at ho;simp(disch:=omega) [-zAa,rV,bZ];refine ac (gK r) rfl fun _=>?_;simp(disch:=omega) [-zAa]
 repeat' (first|(refine BrKd.mk (fun h=>?_) (fun h=>?_)<;>simp(disch:=omega) [*])|(refine BrK.mk (fun h=>?_) (fun h=>?_)<;>simp(disch:=omega) [*]))
theorem A9(r:Nat):Fn Tryz.prog fq [rV r] (.bool (aQ r)):=by
 refine Fn.of_image mixed pY pS rfl fun ho=>?_;unfold jA;simp only[oks,ok,and_true]at ho;simp(disch:=omega) [-zAa,rV,aQ];refine ac (gK r) rfl fun _=>?_;simp(disch:=omega) [-zAa]
 repeat' (first|(refine BrKd.mk (fun h=>?_) (fun h=>?_)<;>simp(disch:=omega) [*])|(refine BrK.mk (fun h=>?_) (fun h=>?_)<;>simp(disch:=omega) [*]))
theorem yY(r q:Nat):FnH Tryz.prog fp [1] [rV r,.ptr 0 0] [some (.box [rV q])] (.bool (cJ q r)) [some (.box [rV q])]:=by
 refine FnH.of_image mixed ov ou rfl fun ho hh=>?_;unfold i8;simp(disch:=omega) [-zAa,rV,cJ];omega
theorem Sy(s:Str)(q:Nat)(hs:s.length<=1000000000)(hq:q<128):FnH Tryz.prog eU [1] [.str s,.fn (.func fp) [] [.ptr 0 0]] [some (.box [rV q])] (.int .i64 (ai (cJ q) s)) [some (.box [rV q])]:=by
 refine FnH.of_image mixed AD Ai rfl fun ho hh=>?_;unfold qw;clear ho hh
 have hc:∀r r',128<=r->128<=r'->cJ q r=cJ q r':=fun r r' h h'=>by
  have h1:¬r=q:=by omega
  have h2:¬r'=q:=by omega
  simp[cJ,h1,h2]
 simp(disch:=omega) [-zAa,rV];generalize hR:ai (cJ q) s=R
 refine ay (fun(k:Nat)=>⟨[(0,.str s),(1,.fn (.func fp) [] [.ptr 0 0]),(8,.ref 1 0)],[some (.box [.int .i32 q]),some (.itr s k)]⟩)
  (fun k=>k<=s.length/\k+ai (cJ q) (s.drop k)=R) (fun k=>s.length-k) [] _ 0 rfl (by simp) (by simp[hR]) ?_
 rintro k ⟨hk,hi⟩ N hN;rcases place s k hk with⟨he,hd⟩|⟨hlt,x,hx,hd⟩
 ·rw[hd]at hi
  simp[ai]at hi;subst hi;simp(disch:=omega) [-zAa,he]
 ·obtain⟨r,n,hdo,hn1,hr1,hskip,hstop,hlen2⟩:=Lk s k hlt hc
  replace hi:=hid hi;simp(disch:=omega) [-zAa,hlt,hdo];refine ah [1] 1 [0] (by simp) (by simp) (by simp[rV]) (by simp[rV]) (yY r q) (by simp) fun _ _=>?_
  simp(disch:=omega) [-zAa,rV];refine BrK.mk (fun h=>?_) (fun h=>?_)
  ·have hi:=hi.out
   rw[hskip h]at hi;exact hN.out _<|Nx.mk (k+n) (by simp) ⟨by omega,by omega⟩ (by omega)
  ·have hi:=hi.out
   rw[hstop h]at hi;simp(disch:=omega) [-zAa];omega
theorem A8(r:Nat):Fn Tryz.prog fo [rV r] (.bool (mA r)):=by
 refine Fn.of_image mixed pX pR rfl fun ho=>?_;unfold jz;simp only[oks,ok,and_true]at ho;simp(disch:=omega) [-zAa,rV,mA];refine ac (gK r) rfl fun _=>?_;simp(disch:=omega) [-zAa]
 repeat' (first|(refine BrKd.mk (fun h=>?_) (fun h=>?_)<;>simp(disch:=omega) [*])|(refine BrK.mk (fun h=>?_) (fun h=>?_)<;>simp(disch:=omega) [*]))
end Go.Abs.F
end
