/- Plain: right texts as characters one behind the ot. -/
import Derived.Test.YtedmnakfknbabaaGreatDoorPP1
import Derived.Test.YtedmnakfknbabaaGreatDoorPQ2
import Derived.Test.YtedmnakfknbabaaGreatDoorPF1
import Derived.Test.YtedmnakfknbabaaGreatDoorPB34
import Derived.Test.YtedmnakfknbabaaGreatDoorPB0
set_option linter.all false
set_option maxHeartbeats 0
set_option maxRecDepth 100000
open List renaming reduceReplicate→zAa,length_drop→zAb,length_cons→zAc,length_append→zAe,length_take→zAf,length_nil→zAg,getElem?_eq_some_iff→zAh,drop_drop→zAi,mem_cons→zAj,cons_append→zBa,eq_nil_of_length_eq_zero→zBb,take_succ_cons→zBd,map_cons→zBf,getElem?_drop→zBg,nil_append→zBh,length→zBj,not_mem_nil→zCa,length_map→zCb,foldl_cons→zCc,any_append→zCd,drop_append_of_le_length→zCe,map_nil→zCf,take_append_drop→zCg,isPrefixOf_iff_prefix→zCh,length_pos_iff→zCi,mem_append→zCj,getElem?_take→zDa,sum_nil→zDc,append_assoc→zDd,append_eq_nil_iff→zDe,drop_eq_nil_of_le→zDf,mem_of_getElem?→zDh,take_append_of_le_length→zDi,drop_left→zEa,take_left→zEb,mem_singleton→zEc,sum_cons→zEd,drop_eq_getElem_cons→zEg,getElem?_append_left→zEh,getLast?_eq_some_iff→zEi,map→zEj,getElem?_cons_succ→zFa,take_zero→zFb,eq_nil_or_concat→zFc,drop_zero→zFd,dropLast_concat→zFe,any_cons→zFf,drop_succ_cons→zFg,mem_map→zFh,all_eq_true→zGa,append_nil→zGd,all_append→zGf,take→zGg,drop_nil→zGh,map_map→zGi,any_nil→zGj,foldl→zHb
open Bool renaming and_eq_true→zAd,or_eq_true→zBc,or_eq_false_iff→zBi,and_eq_false_iff→zDg,not_eq_true'→zEe,false_eq_true→zFi
open Nat renaming le_refl→zBe,lt_or_ge→zDb,mul_le_mul_left→zDj,mod_eq_of_lt→zGb
open Int renaming toNat_natCast→zEf
open Option renaming not_isSome→zFj
open List.cons renaming injEq→zGc
open UInt8 renaming toNat_inj→zGe,ofNat→zHa
section
namespace Go.Abs.F
open Go.Proofs
def okR(r:Nat):Prop:=r<=1114111/\¬(55296<=r/\r<=57343)/\r≠0/\r≠13
def Rt(s:Str):Prop:=∃l:List Nat,(∀r∈l,okR r)/\s=aX l
theorem fF(r:Nat)(l:List Nat):aX (r::l)=aw r++aX l:=by simp[aX]
theorem sd(a b:List Nat):aX (a++b)=aX a++aX b:=by simp[aX]
theorem Rt.nil:Rt []:=⟨[],by simp,rfl⟩
theorem Rt.append{a b:Str}(h:Rt a)(h':Rt b):Rt (a++b):=by
 obtain⟨l,h1,rfl⟩:=h;obtain⟨m,h2,rfl⟩:=h';exact⟨l++m,fun r hr=>(zCj.1 hr).elim (h1 r) (h2 r),(sd l m).symm⟩
theorem mw{r:Nat}(h:r<128):aw r=[b8 r]:=by
 unfold aw;simp only;rw[if_neg (show ¬(1114111<r\/(55296<=r/\r<=57343)) by omega),if_pos h]
theorem pJ{r:Nat}(h:128<=r):2<=(aw r).length/\∀b∈aw r,128<=b.toNat:=by
 unfold aw;simp only;generalize hv:(if 1114111<r\/(55296<=r/\r<=57343)then 65533 else r)=v
 have hv1:128<=v/\v<=1114111:=by
  subst hv;split<;>omega
 rw[if_neg (by omega)]
 split
 ·have e1:(b8 (192+v/64)).toNat=192+v/64:=aV (by omega)
  have e2:(b8 (128+v%64)).toNat=128+v%64:=aV (by omega)
  refine⟨by simp,fun b hb=>?_⟩
  simp only[zAj,zCa,or_false]at hb;rcases hb with rfl|rfl<;>omega
 ·split
  ·have e1:(b8 (224+v/4096)).toNat=224+v/4096:=aV (by omega)
   have e2:(b8 (128+v/64%64)).toNat=128+v/64%64:=aV (by omega)
   have e3:(b8 (128+v%64)).toNat=128+v%64:=aV (by omega)
   refine⟨by simp,fun b hb=>?_⟩
   simp only[zAj,zCa,or_false]at hb;rcases hb with rfl|rfl|rfl<;>omega
  ·have e1:(b8 (240+v/262144)).toNat=240+v/262144:=aV (by omega)
   have e2:(b8 (128+v/4096%64)).toNat=128+v/4096%64:=aV (by omega)
   have e3:(b8 (128+v/64%64)).toNat=128+v/64%64:=aV (by omega)
   have e4:(b8 (128+v%64)).toNat=128+v%64:=aV (by omega)
   refine⟨by simp,fun b hb=>?_⟩
   simp only[zAj,zCa,or_false]at hb;rcases hb with rfl|rfl|rfl|rfl<;>omega
theorem rY(r:Nat):0<(aw r).length:=by
 by_cases h:r<128
 ·rw[mw h];simp
 ·have:=(pJ (r:=r) (by omega)).1
  omega
theorem iy{n:Nat}{b:UInt8}(h:b.toNat=128+n)(hn:n<64):follows b=true:=by simp[follows,h];omega
theorem Ix{r:Nat}(h:okR r)(t:Str):one (aw r++t)=(r,(aw r).length):=by
 obtain⟨h1,h2,h3,h4⟩:=h;unfold aw;simp only;rw[if_neg (show ¬(1114111<r\/(55296<=r/\r<=57343)) by omega)]
 by_cases a:r<128
 ·rw[if_pos a]
  simp[one,aV (show r<256 by omega),a]
 ·rw[if_neg a]
  by_cases b:r<2048
  ·rw[if_pos b]
   have e1:(b8 (192+r/64)).toNat=192+r/64:=aV (by omega)
   have e2:(b8 (128+r%64)).toNat=128+r%64:=aV (by omega)
   have f2:=iy e2 (by omega)
   have hh:hdr (192+r/64)=(2,r/64,128):=by
    unfold hdr;rw[if_pos (by omega)]
    simp
   simp only[zBa,zBh,one,e1];rw[if_neg (by omega),hh]
   simp only;rw[if_neg (by simp)]
   have ev:64*(r/64)+(128+r%64)-128=r:=by omega
   simp only[zBd,zFb,goV,f2,e2,if_pos,ev,oa];rw[if_neg (by omega)]
   simp
  ·rw[if_neg b]
   by_cases c:r<65536
   ·rw[if_pos c]
    have e1:(b8 (224+r/4096)).toNat=224+r/4096:=aV (by omega)
    have e2:(b8 (128+r/64%64)).toNat=128+r/64%64:=aV (by omega)
    have e3:(b8 (128+r%64)).toNat=128+r%64:=aV (by omega)
    have f2:=iy e2 (by omega)
    have f3:=iy e3 (by omega)
    have hh:hdr (224+r/4096)=(3,r/4096,2048):=by
     unfold hdr;rw[if_neg (by omega),if_pos (by omega)]
     simp
    simp only[zBa,zBh,one,e1];rw[if_neg (by omega),hh]
    simp only;rw[if_neg (by simp)]
    have ev:64*(64*(r/4096)+(128+r/64%64)-128)+(128+r%64)-128=r:=by omega
    simp only[zBd,zFb,goV,f2,f3,e2,e3,if_pos,ev,oa];rw[if_neg (by omega)]
    simp
   ·rw[if_neg c]
    have e1:(b8 (240+r/262144)).toNat=240+r/262144:=aV (by omega)
    have e2:(b8 (128+r/4096%64)).toNat=128+r/4096%64:=aV (by omega)
    have e3:(b8 (128+r/64%64)).toNat=128+r/64%64:=aV (by omega)
    have e4:(b8 (128+r%64)).toNat=128+r%64:=aV (by omega)
    have f2:=iy e2 (by omega)
    have f3:=iy e3 (by omega)
    have f4:=iy e4 (by omega)
    have hh:hdr (240+r/262144)=(4,r/262144,65536):=by
     unfold hdr;rw[if_neg (by omega),if_neg (by omega),if_pos (by omega)]
     simp
    simp only[zBa,zBh,one,e1];rw[if_neg (by omega),hh]
    simp only;rw[if_neg (by simp)]
    have ev:64*(64*(64*(r/262144)+(128+r/4096%64)-128)+(128+r/64%64)-128)+(128+r%64)-128=r:=by omega
    simp only[zBd,zFb,goV,f2,f3,f4,e2,e3,e4,if_pos,ev,oa];rw[if_neg (by omega)]
    simp
theorem vt:∀l:List Nat,(∀r∈l,okR r)->b9 (aX l)=l
 |[],_=>rfl
 |r::l,h=>by
   have h1:=Ix (h r (by simp)) (aX l)
   have h2:=rY r;have ih:=vt l (fun x hx=>h x (by simp[hx]))
   rw[fF];cases hb:aw r with
   |nil=>rw[hb]at h2;simp at h2
   |cons b t=>
     rw[hb,zBa]at h1;rw[zBa,eC,h1];simp only[zAc,zFg,zEa,ih]
theorem Ky:∀(l:List Nat)(p:Option Nat),(∀r∈l,okR r)->p≠some 13->eW p l=l
 |[],_,_,_=>rfl
 |r::l,p,h,hp=>by
   obtain⟨_,_,h3,h4⟩:=h r (by simp)
   simp only[eW];rw[if_neg (fun e=>hp e.2),if_neg h4,if_neg h3,Ky l (some r) (fun x hx=>h x (by simp[hx])) (by simpa using h4)]
   rfl
theorem Rt.right{s:Str}(h:Rt s):right s=true:=by
 obtain⟨l,h,rfl⟩:=h;simp only[F.right,decide_eq_true_eq,bg,vt l h,Ky l none h (by simp)]
theorem G7:∀(l:List Nat)(p:Option Nat),(∀r∈l,r<=1114111/\¬(55296<=r/\r<=57343))->∀r∈eW p l,okR r
 |[],p,_,r,hr=>by simp[eW]at hr
 |x::l,p,h,r,hr=>by
   simp only[eW,zCj]at hr;rcases hr with hr|hr
   ·have:=h x (by simp)
    split at hr
    ·cases hr
    ·simp at hr
     subst hr;unfold okR;split
     ·omega
     ·split<;>omega
   ·exact G7 l _ (fun y hy=>h y (by simp[hy])) r hr
theorem lZ(s:Str):Rt (bg s):=⟨_,G7 _ _ (Bv s.length s (zBe _)),rfl⟩
theorem vg(s:Str):Rt s↔right s=true:=by
 refine⟨Rt.right,fun h=>?_⟩;simp only[F.right,decide_eq_true_eq]at h;rw[<-h];exact lZ s
theorem Rt.cut{a b:Str}(h:Rt (a++b))(hb:b=[]\/(∃c t,b=c::t/\c.toNat<128)\/a=[]\/∃c u,a=u++[c]/\c.toNat<128):Rt a/\Rt b:=by
 obtain⟨l,h1,h2⟩:=h;revert a
 induction l with
 |nil=>
   intro a hb h2;simp only[aX,zCf,List.flatten_nil,zDe]at h2;rw[h2.1,h2.2];exact⟨Rt.nil,Rt.nil⟩
 |cons r l ih=>
   intro a hb h2;rw[fF]at h2;by_cases ha:a=[]
   ·subst ha
    refine⟨Rt.nil,r::l,h1,?_⟩;rw[fF];simpa using h2
   ·by_cases hle:(aw r).length<=a.length
    ·obtain⟨a',rfl⟩:∃a',a=aw r++a':=by
      have h3:=congrArg (zGg (aw r).length) h2;rw[zDi hle,zEb]at h3;have h5:=(zCg (aw r).length a).symm;rw[h3]at h5;exact⟨_,h5⟩
     rw[zDd]at h2;have h4:=List.append_cancel_left h2;have hr:Rt (aw r):=⟨[r],by simpa using h1 r (by simp),by simp[aX]⟩
     by_cases ha':a'=[]
     ·subst ha'
      refine⟨by simpa using hr,l,fun x hx=>h1 x (by simp[hx]),by simpa using h4⟩
     ·have:=ih (fun x hx=>h1 x (by simp[hx])) (a:=a') (by
       rcases hb with hb|hb|hb|⟨c,u,hb,hc⟩
       ·exact .inl hb
       ·exact .inr (.inl hb)
       ·exact(ha hb).elim
       ·refine .inr (.inr (.inr ?_))
        rcases zFc a' with h|⟨v,x,rfl⟩
        ·exact(ha' h).elim
        ·have h6:=congrArg List.getLast? hb
         simp[<-zDd]at h6;subst h6;exact⟨x,v,by simp,hc⟩) h4
      exact⟨hr.append this.1,this.2⟩
    ·exfalso
     have hrl:¬r<128:=by
      intro h;rw[mw h,List.length_singleton]at hle;have:0<a.length:=zCi.2 ha;omega
     have hhi:=(pJ (r:=r) (by omega)).2
     have hpre:a=(aw r).take a.length:=by
      have h3:=congrArg (zGg a.length) h2;rwa[zEb,zDi (by omega)]at h3
     have hbt:b=(aw r).drop a.length++aX l:=by
      have h3:=congrArg (List.drop a.length) h2;rwa[zEa,zCe (by omega)]at h3
     rcases hb with hb|⟨c,t,hb,hc⟩|hb|⟨c,u,hb,hc⟩
     ·rw[hb]at hbt
      have:=congrArg zBj hbt;simp at this;omega
     ·have h6:c∈(aw r).drop a.length:=by
       have h7:((aw r).drop a.length).length≠0:=by simp;omega
       cases hd:(aw r).drop a.length with
       |nil=>rw[hd]at h7;simp at h7
       |cons x y=>
         rw[hd,hb]at hbt;simp only[zBa,zGc]at hbt;simp[hbt.1]
      have:=hhi c (List.mem_of_mem_drop h6);omega
     ·exact ha hb
     ·have h6:c∈aw r:=by
       have:c∈a:=by rw[hb];simp
       rw[hpre]at this;exact List.mem_of_mem_take this
      have:=hhi c h6;omega
theorem Rt.ascii{s:Str}(h:∀b∈s,b.toNat<128/\b.toNat≠0/\b.toNat≠13):Rt s:=by
 refine⟨s.map (·.toNat),fun r hr=>?_,?_⟩
 ·obtain⟨b,hb,rfl⟩:=zFh.1 hr
  obtain⟨h1,h2,h3⟩:=h b hb;exact⟨by omega,by omega,h2,h3⟩
 ·induction s with
  |nil=>rfl
  |cons b s ih=>
    have hb:=h b (by simp)
    rw[zBf,fF,mw hb.1,<-ih (fun x hx=>h x (by simp[hx]))]
    simp[b8]
theorem Rt.ind{p:Str->Prop}(h0:p [])(h1:∀(b:UInt8)(t:Str),b.toNat<128->b.toNat≠0->b.toNat≠13->Rt t->p t->p (b::t))(h2:∀(u t:Str),u≠[]->(∀b∈u,128<=b.toNat)->Rt u->Rt t->p t->p (u++t)){s:Str}(h:Rt s):p s:=by
 obtain⟨l,hl,rfl⟩:=h
 induction l with
 |nil=>exact h0
 |cons r l ih=>
   have ht:∀x∈l,okR x:=fun x hx=>hl x (by simp[hx])
   have hr:=hl r (by simp)
   rw[fF];by_cases hlo:r<128
   ·rw[mw hlo]
    have e:(b8 r).toNat=r:=aV (by omega)
    exact h1 (b8 r) _ (by omega) (by rw[e];exact hr.2.2.1) (by rw[e];exact hr.2.2.2) ⟨l,ht,rfl⟩ (ih ht)
   ·have h3:=pJ (r:=r) (by omega)
    exact h2 _ _ (fun e=>by rw[e]at h3;simp at h3) h3.2 ⟨[r],by simpa using hr,by simp[aX]⟩ ⟨l,ht,rfl⟩ (ih ht)
theorem Rt.tail{b:UInt8}{t:Str}(h:Rt (b::t))(hb:b.toNat<128):Rt t:=(Rt.cut (a:=[b]) (b:=t) h (.inr (.inr (.inr ⟨b,[],rfl,hb⟩)))).2
end Go.Abs.F
end
section
namespace Go.Abs.F
open Go.Proofs
attribute [-simp] getElem?_pos zFj zGi
theorem Rt.one{b:UInt8}(h:b.toNat<128)(h0:b.toNat≠0)(h1:b.toNat≠13):Rt [b]:=Rt.ascii fun x hx=>by
 simp only[zAj,zCa,or_false]at hx;subst hx;exact⟨h,h0,h1⟩
theorem Rt.cons{b:UInt8}{t:Str}(h:b.toNat<128)(h0:b.toNat≠0)(h1:b.toNat≠13)(ht:Rt t):Rt (b::t):=(Rt.one h h0 h1).append ht
theorem Rt.fold{s:Str}(h:Rt s):Rt (s.map aH):=by
 refine Rt.ind (p:=fun s=>Rt (s.map aH)) Rt.nil (fun b t h1 h2 h3 _ ih=>?_) (fun u t hne hu hru _ ih=>?_) h
 ·rw[zBf]
  by_cases hb:65<=b.toNat/\b.toNat<=90
  ·have e:(aH b).toNat=b.toNat+32:=by unfold aH;rw[if_pos hb];exact aV (by omega)
   exact Rt.cons (by omega) (by omega) (by omega) ih
  ·rw[ku hb]
   exact Rt.cons h1 h2 h3 ih
 ·rw[List.map_append,xj (fun b hb=>by have:=hu b hb;omega)]
  exact hru.append ih
theorem Rt.at{s:Str}(h:Rt s){k:Nat}(hk:k=0\/s.length<=k\/(∃c,s[k]?=some c/\c.toNat<128)\/(∃c,0<k/\s[k-1]?=some c/\c.toNat<128)):Rt (s.take k)/\Rt (s.drop k):=by
 refine Rt.cut (a:=s.take k) (b:=s.drop k) (by rw[zCg];exact h) ?_
 rcases hk with rfl|hk|⟨c,hc,h1⟩|⟨c,h0,hc,h1⟩
 ·exact .inr (.inr (.inl (by simp)))
 ·exact .inl (zDf hk)
 ·obtain⟨hlt,e⟩:=zAh.1 hc
  exact .inr (.inl ⟨c,s.drop (k+1),by rw[zEg hlt,e],h1⟩)
 ·obtain⟨hlt,e⟩:=zAh.1 hc
  refine .inr (.inr (.inr ⟨c,s.take (k-1),?_,h1⟩));have:=fP hc;rw[show k-1+1=k by omega]at this
  exact this
theorem mH (p:Nat→Bool):∀ s:Str,∀ b∈s.take (ai p s),p b.toNat=true
 | [],b,hb=>by simp at hb
 | c::s,b,hb=>by
   rw [bJ] at hb
   split at hb
   · rename_i h
     rw [zBd,zAj] at hb
     rcases hb with rfl | hb
     · exact h
     · exact mH p s b hb
   · simp at hb
theorem Fg{p:Nat->Bool}{s:Str}:s.length<=ai p s\/∃c,s[ai p s]?=some c/\p c.toNat=false:=by
 by_cases h:ai p s<s.length
 ·obtain⟨c,hc⟩:=bH (l:=s) (k:=ai p s) h
  exact .inr ⟨c,hc,j7 hc⟩
 ·exact .inl (by omega)
theorem pq{p:Nat->Bool}{s:Str}(hp:∀r,128<=r->p r=true)(h:Rt s):Rt (s.take (ai p s))/\Rt (s.drop (ai p s)):=by
 refine h.at ?_;rcases Fg (p:=p) (s:=s)with h1|⟨c,h1,h2⟩
 ·exact .inr (.inl h1)
 ·refine .inr (.inr (.inl ⟨c,h1,?_⟩))
  by_cases h3:128<=c.toNat
  ·rw[hp _ h3]at h2;cases h2
  ·omega
theorem kX {p:Nat→Bool} {s:Str} (hp:∀ r,128≤r→p r=false) (h:Rt s):Rt (s.take (ai p s))∧Rt (s.drop (ai p s)):=by
 refine h.at ?_
 by_cases h0:ai p s=0
 · exact .inl h0
 · have hle:=b7 p s
   obtain ⟨c,hc⟩:=bH (l:=s) (k:=ai p s - 1) (by omega)
   refine .inr (.inr (.inr ⟨c,by omega,hc,?_⟩))
   have hm:c∈s.take (ai p s):=by
    refine zDh (i:=ai p s - 1) ?_
    rw [zDa,if_pos (by omega)]
    exact hc
   have:=mH p s c hm
   by_cases h3:128≤c.toNat
   · rw [hp _ h3] at this; cases this
   · omega
theorem PI(n:Nat):okR (vR n):=by
 unfold vR okR;split
 ·omega
 ·omega
theorem FL{base most:Nat}:∀{t:Str}{n d:Nat}{p:Nat×Nat},lH base most t n d=some p->0<p.2/\(d=0->2<=p.2)/\∃c,t[p.2-1]?=some c/\c.toNat=59
 |[],_,_,_,h=>by simp[lH]at h
 |b::t,n,d,p,h=>by
   simp only[lH]at h;split at h
   ·rename_i hb
    split at h
    ·cases h
    ·rename_i hd
     cases h;exact⟨by simp,fun e=>(hd e).elim,b,rfl,hb⟩
   ·split at h
    ·cases h
    ·split at h
     ·cases h
     ·simp only[Option.map_eq_some_iff]at h
      obtain⟨q,hq,rfl⟩:=h;obtain⟨h1,h2,c,hc,h3⟩:=FL hq;refine⟨by simp,fun _=>by simp only;omega,c,?_,h3⟩
      simp only;rw[show q.2+1-1=(q.2-1)+1 by omega,zFa]
      exact hc
theorem BR{s:Str}:∀{l:List (Str×Nat)}{r:Nat},gV s l=some r->(s,r)∈l
 |[],_,h=>by simp[gV]at h
 |e::l,r,h=>by
   simp only[gV]at h;split at h
   ·rename_i hs
    cases h;subst hs;simp
   ·exact List.mem_cons_of_mem _ (BR h)
theorem OB:∀e∈ns,okR e.2/\2<=e.1.length:=by
 intro e he;simp only[ns,zAj,zCa,or_false]at he;unfold okR;rcases he with rfl|rfl|rfl|rfl|rfl|rfl|rfl|rfl|rfl|rfl|rfl|rfl|rfl|rfl|rfl<;>simp
def Qj(s:Str)(p:Nat×Nat):Prop:=p.2=0\/(okR p.1/\4<=p.2/\∃c,s[p.2-1]?=some c/\c.toNat=59)
theorem Pf(s:Str):∀(t:Str)(i:Nat),1<=i->t=s.drop i->Qj s (goN s i t)
 |[],i,_,_=>.inl (by simp[goN])
 |b::t,i,hi,ht=>by
   simp only[goN];split
   ·exact .inl rfl
   ·split
    ·rename_i hb
     split
     ·rename_i r hr
      have hm:=BR hr;obtain⟨h1,h2⟩:=OB _ hm;have h3:(s.tail.take (i-1)).length<=i-1:=by simp;omega
      simp only at h1 h2;refine .inr ⟨h1,by simp only;omega,b,?_,hb⟩
      simp only[Nat.add_sub_cancel];have h4:(s.drop i)[0]?=some b:=by rw[<-ht];rfl
      simpa[zBg]using h4
     ·exact .inl rfl
    ·exact Pf s t (i+1) (by omega) (by rw[<-zAi,<-ht];rfl)
theorem Ki{s:Str}{k base most n:Nat}(hk:2<=k):Qj s (kN k (lH base most (s.drop k) n 0)):=by
 cases h:lH base most (s.drop k) n 0 with
 |none=>exact .inl rfl
 |some p=>
   obtain⟨h1,h2,c,hc,h3⟩:=FL h;have:=h2 rfl;refine .inr ⟨PI _,by simp only[kN];omega,c,?_,h3⟩
   simp only[kN];rw[zBg]at hc;rw[show k+p.2-1=k+(p.2-1) by omega]
   exact hc
theorem RT(s:Str):Qj s (ic s):=by
 unfold ic;split
 ·exact Ki (by omega)
 ·split
  ·exact Ki (by omega)
  ·split
   ·exact Pf s _ 1 (zBe _) rfl
   ·exact .inl rfl
theorem BP{r:Nat}(h:okR r):Rt (aw r):=⟨[r],by simpa using h,by simp[aX]⟩
theorem rS:∀(n:Nat)(s:Str),s.length<=n->Rt s->Rt (i7 s)/\(s≠[]->i7 s≠[])/\(i7 s).length<=s.length:=by
 intro n
 induction n with
 |zero=>
   intro s hl _;have:s=[]:=zBb (by omega)
   subst this;exact⟨Rt.nil,fun h=>(h rfl).elim,by simp[tq]⟩
 |succ n ih=>
   intro s hl h;obtain⟨l,hok,rfl⟩:=h;cases l with
   |nil=>exact⟨Rt.nil,fun h=>(h rfl).elim,by simp[aX,tq]⟩
   |cons r l=>
     have hrt:Rt (aX (r::l)):=⟨_,hok,rfl⟩;have hr:=hok r (by simp)
     have htl:Rt (aX l):=⟨l,fun x hx=>hok x (by simp[hx]),rfl⟩
     have hbp:=rY r;by_cases hlo:r<128
     ·rw[fF,mw hlo,List.singleton_append]at hrt hl⊢
      have e:(b8 r).toNat=r:=aV (by omega)
      simp only[zAc]at hl;have ih1:=ih _ (by omega) htl
      rw[fV];split
      ·rename_i h38
       have hro:=RT (b8 r::aX l);have hrr:=(xT (b8 r::aX l)).2;split
       ·rename_i h0
        refine⟨Rt.cons (by decide) (by decide) (by decide) ih1.1,fun _=>by simp,?_⟩
        have:=ih1.2.2;simp only[zAc];omega
       ·rename_i h0
        rcases hro with hro|⟨h1,h2,c,hc,h3⟩
        ·exact(h0 hro).elim
        ·have hcut:=hrt.at (k:=(ic (b8 r::aX l)).2) (.inr (.inr (.inr ⟨c,by omega,hc,by omega⟩)))
         have ih2:=ih _ (by simp only[zAb,zAc];omega) hcut.2
         refine⟨(BP h1).append ih2.1,fun _ h=>?_,?_⟩
         ·have:=(zDe.1 h).1
          have hp:=rY (ic (b8 r::aX l)).1;rw[this]at hp;simp at hp
         ·have:=eO (ic (b8 r::aX l)).1
          have h4:=ih2.2.2;simp only[zAe,zAb,zAc]at h4 hrr⊢;omega
      ·rename_i h38
       refine⟨Rt.cons (by omega) (by rw[e];exact hr.2.2.1) (by rw[e];exact hr.2.2.2) ih1.1,fun _=>by simp,?_⟩
       have:=ih1.2.2;simp only[zAc];omega
     ·have hhi:=(pJ (r:=r) (by omega)).2
      rw[fF]at hrt hl⊢;have ih1:=ih (aX l) (by rw[zAe]at hl;omega) htl
      have hsk:=pF (aw r).length (aw r++aX l) (fun i b hi hb=>by
       rw[zEh hi]at hb;have:=hhi b (zDh hb);omega)
      rw[zEb,zEa]at hsk;rw[hsk];refine⟨(BP hr).append ih1.1,fun _ h=>?_,?_⟩
      ·have:=(zDe.1 h).1
       rw[this]at hbp;simp at hbp
      ·have:=ih1.2.2
       simp only[zAe];omega
theorem Rt.dec{s:Str}(h:Rt s):Rt (i7 s):=(rS s.length s (zBe _) h).1
theorem Rt.dec_ne{s:Str}(h:Rt s)(hne:s≠[]):i7 s≠[]:=(rS s.length s (zBe _) h).2.1 hne
theorem Rt.dec_len{s:Str}(h:Rt s):(i7 s).length<=s.length:=(rS s.length s (zBe _) h).2.2
theorem dY{s:Str}:right s=true↔Rt s:=(vg s).symm
theorem Bd{s:Str}(h:Rt s)(hs:∀b∈s,aQ b.toNat=true)(hne:s≠[]):aU (s.map aH)=true:=by
 have hr:=dY.2 h.fold;simp only[right,decide_eq_true_eq]at hr;have hl:0<(s.map aH).length:=by rw[zCb];exact zCi.2 hne
 simp only[aU,zAd,zGa,decide_eq_true_eq];refine⟨fun b hb=>?_,hr,hl⟩;obtain⟨c,hc,rfl⟩:=zFh.1 hb;have h1:=hs c hc;have hcb:=c.toNat_lt;simp only[aQ,bd,zAd,zEe,zBi,decide_eq_false_iff_not]at h1;simp only[dJ,zEe,zBi,zDg,decide_eq_false_iff_not];by_cases hb:65<=c.toNat/\c.toNat<=90
 ·have e:(aH c).toNat=c.toNat+32:=by unfold aH;rw[if_pos hb];exact aV (by omega)
  rw[e];omega
 ·rw[ku hb]
  omega
theorem bo{s:Str}{k:Nat}{c:UInt8}(h:s[k]?=some c):s.drop k=c::s.drop (k+1):=by
 obtain⟨hlt,e⟩:=zAh.1 h;rw[zEg hlt,e]
def AttOK(s:Str)(nm:Str)(p:Attr×Nat):Prop:=p.1.name=nm/\right p.1.value=true/\p.1.value.length<=s.length/\Rt (s.drop p.2)
theorem J3{s nm:Str}{i:Nat}(h:Rt (s.drop i)):AttOK s nm (xv s nm i):=by
 have rnil:right []=true:=dY.2 Rt.nil;unfold xv;split
 ·exact⟨rfl,rnil,by simp,h⟩
 ·rename_i q hq
  have hd:=bo hq;split
  ·rename_i hqq
   have h5:Rt (s.drop (i+1)):=by rw[hd]at h;exact h.tail (by omega)
   have h6:=pq (p:=cJ q.toNat) (fun r hr=>by simp[cJ];omega) h5
   split
   ·exact⟨rfl,rnil,by simp,by simp[Rt.nil]⟩
   ·rename_i hne
    refine⟨rfl,dY.2 h6.1.dec,?_,?_⟩
    ·have:=h6.1.dec_len
     simp only[zAf,zAb]at this;simp only;omega
    ·simp only
     rcases Fg (p:=cJ q.toNat) (s:=s.drop (i+1))with h1|⟨c,h1,h2⟩
     ·have:(s.drop (i+1+ai (cJ q.toNat) (s.drop (i+1))+1))=[]:=zDf (by simp only[zAb]at h1;omega)
      rw[this];exact Rt.nil
     ·have h3:=bo h1
      rw[zAi,zAi]at h3;have h4:=h6.2;rw[zAi,h3]at h4;refine h4.tail ?_;simp only[cJ,Bool.not_eq_false',decide_eq_true_eq]at h2;omega
  ·have h6:=pq (p:=mA) (fun r hr=>tV hr) h
   refine⟨rfl,dY.2 h6.1.dec,?_,?_⟩
   ·have:=h6.1.dec_len
    simp only[zAf,zAb]at this;simp only;omega
   ·have h4:=h6.2
    rwa[zAi]at h4
theorem HO {s:Str} (h:Rt s) (hn:0 < ai aQ s):aU (eP s).1.name=true∧(eP s).1.name.length≤s.length∧right (eP s).1.value=true∧(eP s).1.value.length≤s.length∧Rt (s.drop (eP s).2):=by
 have h1:=pq (p:=aQ) (fun r hr=>tX hr) h
 have h2:=kX (p:=bd) (fun r hr=>eY hr) h1.2
 have hle:=b7 aQ s
 have ha:aU ((s.take (ai aQ s)).map aH)=true:=Bd h1.1 (mH aQ s) (by
  intro e
  have:=congrArg zBj e
  rw [zAf,zAg] at this
  omega)
 have hal:((s.take (ai aQ s)).map aH).length≤s.length:=by rw [zCb,zAf]; omega
 have h3:=h2.2
 rw [zAi] at h3
 unfold eP
 split
 · rename_i hq
   have hd:=bo hq
   rw [hd] at h3
   have h4:=h3.tail (by decide)
   have h5:=(kX (p:=bd) (fun r hr=>eY hr) h4).2
   rw [zAi] at h5
   obtain ⟨k1,k2,k3,k4⟩:=J3 (nm:=(s.take (ai aQ s)).map aH) h5
   rw [k1]
   exact ⟨ha,hal,k2,k3,k4⟩
 · exact ⟨ha,hal,dY.2 Rt.nil,by simp,h3⟩
theorem Cj:∀(l pre:List Attr)(a:Attr),dU pre l=0->aU a.name=true->kq (pre++l) a.name=false->dU pre (l++[a])=0
 |[],pre,a,_,h1,h2=>by
   rw[zGd]at h2;simp[dU,h1,h2]
 |x::l,pre,a,h,h1,h2=>by
   simp only[zBa,dU]at h⊢;split at h
   ·rename_i hx
    split at h
    ·cases h
    ·rename_i hn
     rw[if_pos hx,if_neg hn];exact Cj l (pre++[x]) a h h1 (by simpa using h2)
   ·cases h
theorem sr:∀(l:List Attr)(a:Attr),bf l=true->right a.value=true->bf (l++[a])=true
 |[],a,_,h=>by simp[bf,h]
 |x::l,a,h,h1=>by
   simp only[zBa,bf,zAd]at h⊢;exact⟨h.1,sr l a h.2 h1⟩
def JR(m:Nat)(l:List Attr):Prop:=dU [] l=0/\bf l=true/\∀a∈l,a.name.length<=m/\a.value.length<=m
theorem KL{s:Str}:∀{f i:Nat}{l:List Attr}{p:List Attr×Nat},my f s i l=some p->Rt (s.drop i)->JR s.length l->l.length<=i->JR s.length p.1/\Rt (s.drop p.2)/\p.1.length<=s.length
 |0,_,_,_,h,_,_,_=>by simp[my]at h
 |f+1,i,l,p,h,hr,hl,hll=>by
   simp only[my]at h;have h1:=(kX (p:=bZ) (fun r hr=>si hr) hr).2;rw[zAi]at h1;split at h
   ·cases h
   ·rename_i b hb
    have hlt:=(zAh.1 hb).1;have hd:=bo hb;split at h
    ·rename_i h62
     cases h;rw[hd]at h1;exact⟨hl,h1.tail (by omega),by simp only;omega⟩
    ·rename_i h62
     have hstop:bZ b.toNat=false:=by
      have:=j7 (p:=bZ) (s:=s.drop i) (b:=b) (by rw[zBg];exact hb)
      exact this
     have hat:0<ai aQ (s.drop (i+ai bZ (s.drop i))):=by
      rw[hd,bJ,if_pos]
      ·omega
      ·simp only[bZ,zBi,decide_eq_false_iff_not]at hstop
       simp[aQ,hstop.1.1,hstop.1.2,hstop.2,h62]
     obtain⟨k1,k2,k3,k4,k5⟩:=HO h1 hat;have hrange:=lD (s.drop (i+ai bZ (s.drop i)));rw[zAi]at k5;simp only[zAb]at k2 k4 hrange;refine KL h k5 ?_ ?_
     ·by_cases hn:kq l (eP (s.drop (i+ai bZ (s.drop i)))).1.name=true
      ·rw[if_pos hn];exact hl
      ·rw[if_neg hn]
       refine⟨Cj l [] _ hl.1 k1 (by simpa using hn),sr l _ hl.2.1 k3,fun a ha=>?_⟩
       rcases zCj.1 ha with ha|ha
       ·exact hl.2.2 a ha
       ·simp only[zAj,zCa,or_false]at ha
        subst ha;omega
     ·split
      ·omega
      ·simp only[zAe,zAc,zAg]
       omega
def Cz(m:Nat)(t:Tok):Prop:=(t.kind=1->named t.name=true/\JR m t.attrs)/\(t.kind=4->Rt t.text/\gg dc t.text=false)/\t.kind≠3/\t.name.length<=m/\t.text.length<=m/\t.attrs.length<=m
theorem CL(m:Nat):Cz m lX:=⟨fun h=>by simp[lX]at h,fun h=>by simp[lX]at h,by simp[lX],by simp[lX],by simp[lX],by simp[lX]⟩
theorem Kx{w s:Str}(hw:w≠[])(h:∀j,j<=s.length->Lib.occAt s w j=false):gg w s=false:=by
 rw[rx w hw,Lib.index_none h];rfl
theorem Ox{s w:Str}{n j:Nat}(h:Lib.occAt (s.take n) w j=true):Lib.occAt s w j=true:=by
 simp only[Lib.occAt,zCh]at h⊢;rw[List.drop_take]at h;exact h.trans (List.take_prefix _ _)
theorem C0{s w:Str}{j k:Nat}{c:UInt8}(h:Lib.occAt s w j=true)(hk:w[k]?=some c):s[j+k]?=some c:=by
 simp only[Lib.occAt,zCh]at h;obtain⟨u,hu⟩:=h;have hlt:=(zAh.1 hk).1;rw[<-zBg,<-hu,zEh hlt];exact hk
theorem KI{s mark:Str}{k:Nat}(h:Rt (s.drop k))(hm:mark=[62]\/mark=dc):Cz s.length (rT s k mark).1/\Rt (s.drop (rT s k mark).2):=by
 have hne:mark≠[]:=by rcases hm with rfl|rfl<;>simp[dc]
 have hlast:∃q,mark[q]?=some 62/\q+1=mark.length:=by
  rcases hm with rfl|rfl
  ·exact⟨0,rfl,rfl⟩
  ·exact⟨2,rfl,rfl⟩
 have hall:∀{u:Str},(∀j,j<=u.length->Lib.occAt u mark j=false)->gg dc u=false:=by
  intro u hu;rcases hm with rfl|rfl
  ·refine Kx (by simp[dc]) fun j hj=>?_
   cases ho:Lib.occAt u dc j with
   |false=>rfl
   |true=>
     exfalso;have h1:=C0 ho (k:=2) (c:=62) rfl;have hlt:=(zAh.1 h1).1;have h2:=hu (j+2) (by omega)
     simp only[Lib.occAt]at h2;rw[bo h1]at h2;simp at h2
  ·exact Kx (by simp[dc]) hu
 unfold rT;rcases Lib.index_spec (s.drop k) mark with⟨h1,h2⟩|⟨i,h1,h2,h3,h4⟩
 ·rw[h1,if_pos (by decide)]
  refine⟨⟨fun e=>by simp at e,fun _=>⟨h,hall h2⟩,by simp,by simp,by simp,by simp⟩,?_⟩
  simp[Rt.nil]
 ·rw[h1,if_neg (by omega)]
  simp only[zEf]
  have hi:Rt ((s.drop k).take i)/\Rt ((s.drop k).drop i):=by
   obtain⟨c,hc⟩:∃c,mark[0]?=some c/\c.toNat<128:=by rcases hm with rfl|rfl<;>exact⟨_,rfl,by decide⟩
   refine h.at (.inr (.inr (.inl ⟨c,?_,hc.2⟩)));have:=C0 h3 hc.1;simpa using this
  refine⟨⟨fun e=>by simp at e,fun _=>⟨hi.1,hall fun j hj=>?_⟩,by simp,by simp,by simp only[zAf,zAb];omega,by simp⟩,?_⟩
  ·cases ho:Lib.occAt ((s.drop k).take i) mark j with
   |false=>rfl
   |true=>
     have h5:=Ox ho;rcases zDb j i with hji|hji
     ·rw[h4 j hji]at h5;cases h5
     ·exfalso
      simp only[Lib.occAt,zCh]at ho;rw[zDf (by simp only[zAf];omega)]at ho
      exact hne (List.prefix_nil.1 ho)
  ·obtain⟨q,hq,hql⟩:=hlast
   have h6:=C0 h3 hq;have h7:=(h.at (k:=i+mark.length) (.inr (.inr (.inr ⟨62,by omega,by rw[show i+mark.length-1=i+q by omega];exact h6,by decide⟩)))).2
   rw[zAi]at h7;rw[show k+i+mark.length=k+(i+mark.length) by omega]
   exact h7
theorem KH{s:Str}(h:Rt s)(hs:∃b t,s=60::b::t/\b.toNat<128):Cz s.length (oT s).1/\Rt (s.drop (oT s).2):=by
 obtain⟨b,t,rfl,hb⟩:=hs;unfold oT;split
 ·rename_i hbg
  refine KI ?_ (.inr rfl)
  have h4:(60::b::t)[3]?=some 45:=by
   simp only[bq,zAd,decide_eq_true_eq]at hbg;have h5:=congrArg (fun l=>l[3]?) hbg.2;simpa[zDa]using h5
  exact(h.at (k:=4) (.inr (.inr (.inr ⟨45,by decide,h4,by decide⟩)))).2
 ·refine KI ?_ (.inl rfl)
  exact(h.at (k:=2) (.inr (.inr (.inr ⟨b,by decide,rfl,hb⟩)))).2
theorem SB{s:Str}(h:Rt s)(hs:∃b t,s=60::b::t/\b.toNat<128):Cz s.length (tp s).1/\Rt (s.drop (tp s).2):=by
 unfold tp;split
 ·split
  ·rename_i hbg
   refine⟨CL _,?_⟩
   have h4:s[2]?=some 62:=by
    simp only[bq,zAd,decide_eq_true_eq]at hbg;have h5:=congrArg (fun l=>l[2]?) hbg.2;simpa[zDa]using h5
   exact(h.at (k:=3) (.inr (.inr (.inr ⟨62,by decide,h4,by decide⟩)))).2
  ·exact KH h hs
 ·split
  ·exact⟨CL _,by simp[Rt.nil]⟩
  ·rename_i hix
   refine⟨⟨fun e=>by simp at e,fun e=>by simp at e,by simp,?_,by simp,by simp⟩,?_⟩
   ·simp only[zCb,zAf,zAb]
    omega
   ·obtain⟨o,ho⟩:∃o:Nat,Lib.indexByte s 62=o:=⟨(Lib.indexByte s 62).toNat,by omega⟩
    have:=(Lib.indexByte_some ho).1;rw[ho];simp only[zEf];exact(h.at (k:=o+1) (.inr (.inr (.inr ⟨62,by omega,by simpa using this,by decide⟩)))).2
theorem E6 {s:Str} {b:UInt8} {t:Str} (hs:s=b::t) (hl:bB b.toNat=true):named ((s.take (br s)).map aH)=true:=by
 subst hs
 have e:br (b::t)=ai bU (b::t):=by simp only [br,if_pos hl]
 have htk:=mH bU (b::t)
 rw [←e] at htk
 have hb0:bU b.toNat=true:=by simp [bU,hl]
 have e2:br (b::t)=ai bU t + 1:=by rw [e,bJ,if_pos hb0]
 rw [e2,zBd] at htk ⊢
 have RN:∀ c:UInt8,bU c.toNat=true→cG (aH c)=true:=fun c hc=>by
  have hcb:=c.toNat_lt
  simp only [bU,bB,zBc,zAd,decide_eq_true_eq] at hc
  simp only [cG,js,zBc,zAd,decide_eq_true_eq]
  by_cases hb:65≤c.toNat∧c.toNat≤90
  · have e:(aH c).toNat=c.toNat + 32:=by unfold aH; rw [if_pos hb]; exact aV (by omega)
    omega
  · rw [ku hb]
    omega
 have sm:js (aH b)=true:=by
  simp only [bB,zBc,zAd,decide_eq_true_eq] at hl
  simp only [js,zAd,decide_eq_true_eq]
  by_cases hb:65≤b.toNat∧b.toNat≤90
  · have e:(aH b).toNat=b.toNat + 32:=by unfold aH; rw [if_pos hb]; exact aV (by omega)
    omega
  · rw [ku hb]
    omega
 rw [zBf]
 simp only [named,sm,Bool.true_and,zGa]
 intro c hc
 rcases zAj.1 hc with rfl | hc
 · exact RN b hb0
 · obtain ⟨d,hd,rfl⟩:=zFh.1 hc
   exact RN d (htk d (by simp [hd]))
theorem SQ{s:Str}(h:Rt s)(hs:∃b t,s=60::b::t/\bB b.toNat=true):Cz s.length (u5 s).1/\Rt (s.drop (u5 s).2):=by
 obtain⟨b,t,e,hl⟩:=hs;have hd1:s.drop 1=b::t:=by rw[e];rfl
 have hn:=E6 hd1 hl;have hrt1:Rt (s.drop 1):=by rw[hd1];rw[e]at h;exact h.tail (by decide)
 have e0:br (s.drop 1)=ai bU (s.drop 1):=by rw[hd1];simp only[br,if_pos hl]
 have hrt2:Rt (s.drop (1+br (s.drop 1))):=by
  have:=(kX (p:=bU) (fun r hr=>pn hr) hrt1).2;rw[<-e0,zAi]at this;exact this
 have htl:=ug (s.drop 1);unfold u5;split
 ·exact⟨CL _,by simp[Rt.nil]⟩
 ·rename_i p hp
  obtain⟨k1,k2,k3⟩:=KL hp hrt2 ⟨rfl,rfl,fun a ha=>by cases ha⟩ (by simp)
  refine⟨⟨fun _=>⟨hn,k1⟩,fun e=>by simp at e,by simp,?_,by simp,k3⟩,k2⟩
  simp only[zCb,zAf,zAb];omega
theorem CM{s:Str}(h:Rt s)(hs:aA s=true):Cz s.length (cm s).1/\Rt (s.drop (cm s).2)/\0<(cm s).2:=by
 have hpos:0<(cm s).2:=by
  rcases Nat.eq_zero_or_pos (cm s).2 with h0|h0
  ·have:=uh h0
   rw[hs]at this;cases this
  ·exact h0
 rw[<-and_assoc];refine⟨?_,hpos⟩
 have hlo:∃b t,s=60::b::t/\(b.toNat=47\/b.toNat=33\/b.toNat=63\/bB b.toNat=true):=by
  match s,hs with
  |[],hs=>simp[aA]at hs
  |[a],hs=>simp[aA]at hs
  |a::b::t,hs=>
    have ha:=j5 hs;subst ha;simp only[aA,zAd,zBc,decide_eq_true_eq]at hs;exact⟨b,t,rfl,hs.2⟩
 obtain⟨b,t,e,hb⟩:=hlo
 have hb128:b.toNat<128:=by
  simp only[bB,zBc,zAd,decide_eq_true_eq]at hb;omega
 have g1:s[1]?=some b:=by rw[e];rfl
 unfold cm;rw[if_neg (by simp[hs]),g1]
 split
 ·exact SB h ⟨b,t,e,hb128⟩
 ·rename_i h47
  split
  ·exact KH h ⟨b,t,e,hb128⟩
  ·rename_i h33
   refine SQ h ⟨b,t,e,?_⟩;have u8:∀k:Nat,k<256->b.toNat=k->b=zHa k:=fun k hk e=>zGe.1 (by simp[zGb hk,e])
   rcases hb with hb|hb|hb|hb
   ·exact(h47 (by rw[u8 47 (by decide) hb];rfl)).elim
   ·exact(h33 (.inl (by rw[u8 33 (by decide) hb];rfl))).elim
   ·exact(h33 (.inr (by rw[u8 63 (by decide) hb];rfl))).elim
   ·exact hb
theorem IW(b:Bool)(x:Node)(l:List Node):fy b (x::l)=fy (decide (x.kind=2)) l:=by
 unfold fy;cases l with
 |nil=>rfl
 |cons y l=>rw[List.getLast?_cons_cons];cases h:(y::l).getLast? with
   |none=>simp at h
   |some n=>rfl
theorem d5{b:Bool}{n:Node}{l:List Node}:cK b (n::l)=0↔b5 n b=0/\cK false n.kids=0/\cK (decide (n.kind=2)) l=0:=by
 refine⟨dy,fun⟨h1,h2,h3⟩=>?_⟩;simp only[cK,xh,h1,h2,h3,if_true]
theorem uy:∀(l:List Node)(b:Bool)(n:Node),cK b (l++[n])=0↔cK b l=0/\b5 n (fy b l)=0/\cK false n.kids=0
 |[],b,n=>by
   rw[zBh,d5];simp[cK,fy]
 |x::l,b,n=>by
   rw[zBa,d5,d5,uy l,IW];constructor
   ·rintro⟨h1,h2,h3,h4,h5⟩;exact⟨⟨h1,h2,h3⟩,h4,h5⟩
   ·rintro⟨⟨h1,h2,h3⟩,h4,h5⟩;exact⟨h1,h2,h3,h4,h5⟩
theorem vc:∀(l:List Node)(n:Node),dQ (l++[n])=true↔dQ l=true/\(n.kind=3->gg dc n.text=false)/\n.kids.all (bw n.name)=true/\dQ n.kids=true
 |[],n=>by
   constructor
   ·intro h
    obtain⟨h1,h2,h3,_⟩:=vd h;exact⟨rfl,h1,h2,h3⟩
   ·rintro⟨_,h1,h2,h3⟩
    simp only[zBh,dQ,xm,h2,h3,Bool.and_true,zEe,zDg,decide_eq_false_iff_not];by_cases hk:n.kind=3
    ·exact .inr (h1 hk)
    ·exact .inl hk
 |x::l,n=>by
   simp only[zBa,dQ,zAd,vc l n,and_assoc]
def ox(par:Str)(l:List Node):Prop:=cK false l=0/\dQ l=true/\l.all (bw par)=true
def PA:List Fr->Str
 |[]=>[]
 |f::_=>f.name
def Pd:List Fr->List Node->Prop
 |[],out=>ox [] out
 |f::fs,out=>(named f.name=true/\ew f.name=false/\dU [] f.attrs=0/\bf f.attrs=true)/\ox f.name f.kids/\raw (PA fs)=false/\dk (PA fs) f.name=false/\Pd fs out
def i4(z:Zp):Prop:=Pd z.opn z.out
theorem Zp.ctx_eq(z:Zp):z.ctx=PA z.opn:=by obtain⟨out,opn⟩:=z;cases opn<;>rfl
theorem NM:ew []=false:=by decide
theorem Kc:raw []=false:=by decide
theorem uK{fs:List Fr}{out:List Node}(h:Pd fs out):ew (PA fs)=false:=by
 cases fs with
 |nil=>exact NM
 |cons f fs=>exact h.1.2.1
theorem Ca{z:Zp}(h:i4 z):ox z.ctx z.cur:=by
 obtain⟨out,opn⟩:=z;cases opn with
 |nil=>exact h
 |cons f fs=>exact h.2.1
theorem sW{z:Zp}(h:i4 z){l:List Node}(hl:ox z.ctx l):i4 (z.setCur l):=by
 obtain⟨out,opn⟩:=z;cases opn with
 |nil=>exact hl
 |cons f fs=>exact⟨h.1,hl,h.2.2⟩
theorem m4{par:Str}{l:List Node}{n:Node}(h:ox par l)(h1:b5 n (fy false l)=0)(h2:cK false n.kids=0)(h3:n.kind=3->gg dc n.text=false)(h4:n.kids.all (bw n.name)=true)(h5:dQ n.kids=true)(h6:bw par n=true):ox par (l++[n]):=
 ⟨(uy _ _ _).2 ⟨h.1,h1,h2⟩,(vc _ _).2 ⟨h.2.1,h3,h4,h5⟩,by rw[zGf,h.2.2];simp[h6]⟩
theorem rD{z:Zp}(h:i4 z){n:Node}(h1:b5 n (fy false z.cur)=0)(h2:cK false n.kids=0)(h3:n.kind=3->gg dc n.text=false)(h4:n.kids.all (bw n.name)=true)(h5:dQ n.kids=true)(h6:bw z.ctx n=true):i4 (z.push n):=by
 rw[Zp.push_setCur];exact sW h (m4 (Ca h) h1 h2 h3 h4 h5 h6)
theorem Kg{nm:Str}{a:List Attr}{ks:List Node}(b:Bool)(h1:named nm=true)(h2:dU [] a=0)(h3:bf a=true):b5 ⟨1,nm,a,[],ks⟩ b=0:=by
 simp[b5,gL,h1,h2,h3]
theorem He{par nm:Str}{a:List Attr}{t:Str}{ks:List Node}(hv:ew par=false)(hr:raw par=false)(hc:dk par nm=false):bw par ⟨1,nm,a,t,ks⟩=true:=by
 simp[bw,hv,hr,hc]
theorem oz{par:Str}{n:Node}(hv:ew par=false)(hr:raw par=false)(hk:n.kind≠1):bw par n=true:=by
 simp[bw,hv,hr,hk]
theorem rC{z:Zp}(h:i4 z):i4 z.shut/\(z.opn≠[]->raw z.shut.ctx=false):=by
 obtain⟨out,opn⟩:=z;cases opn with
 |nil=>exact⟨h,fun e=>(e rfl).elim⟩
 |cons f fs=>
   obtain⟨⟨h1,h2,h3,h4⟩,h5,h6,h7,h8⟩:=h;have hg:i4 ⟨out,fs⟩:=h8;have hctx:(Zp.mk out fs).ctx=PA fs:=Zp.ctx_eq _;have hp:=rD hg (n:=⟨1,f.name,f.attrs,[],f.kids⟩) (Kg _ h1 h3 h4) h5.1 (by simp) h5.2.2 h5.2.1 (by rw[hctx];exact He (uK h8) h6 h7)
   refine⟨hp,fun _=>?_⟩
   show raw (Zp.push ⟨out,fs⟩ ⟨1,f.name,f.attrs,[],f.kids⟩).ctx=false
   rw[Zp.push_setCur,Zp.ctx_setCur,hctx];exact h6
theorem xI(z:Zp):z.shut.opn.length=z.opn.length-1:=by
 obtain⟨out,opn⟩:=z;cases opn with
 |nil=>rfl
 |cons f fs=>cases fs<;>simp[Zp.shut,Zp.push]
theorem sX{nm:Str}:∀(k:Nat)(z:Zp),z.opn.length<=k->i4 z->raw z.ctx=false->i4 (z.closeG nm k)/\raw (z.closeG nm k).ctx=false/\dk (z.closeG nm k).ctx nm=false
 |0,z,hk,h,hr=>by
   have:z.opn=[]:=zBb (by omega)
   refine⟨h,hr,?_⟩;simp[Zp.closeG,Zp.ctx,this,rU]
 |k+1,z,hk,h,hr=>by
   simp only[Zp.closeG];split
   ·rename_i e
    refine⟨h,hr,?_⟩;simp[Zp.ctx,e,rU]
   ·rename_i f fs e
    split
    ·obtain⟨h1,h2⟩:=rC h
     exact sX k z.shut (by rw[xI];omega) h1 (h2 (by rw[e];simp))
    ·rename_i hc
     refine⟨h,hr,?_⟩;simpa[Zp.ctx,e]using hc
theorem yJ{nm:Str}:∀(k:Nat)(z:Zp),z.opn.length<=k->i4 z->z.has nm=true->i4 (z.endG nm k)/\raw (z.endG nm k).ctx=false
 |0,z,hk,h,hh=>by
   have:z.opn=[]:=zBb (by omega)
   simp[Zp.has,this]at hh
 |k+1,z,hk,h,hh=>by
   obtain⟨h1,h2⟩:=rC h;simp only[Zp.endG];split
   ·rename_i e
    simp[Zp.has,e]at hh
   ·rename_i f fs e
    split
    ·exact⟨h1,h2 (by rw[e];simp)⟩
    ·rename_i hn
     refine yJ k z.shut (by rw[xI];omega) h1 ?_
     obtain⟨out,opn⟩:=z;simp only at e;subst e
     have:Zp.has nm ⟨out,fs⟩=true:=by
      simp only[Zp.has,zFf,zBc,decide_eq_true_eq]at hh⊢;rcases hh with hh|hh
      ·exact(hn hh).elim
      ·exact hh
     cases fs with
     |nil=>simp[Zp.has]at this
     |cons g fs=>simpa[Zp.has,Zp.shut,Zp.push]using this
theorem yK:∀(k:Nat)(z:Zp),z.opn.length<=k->i4 z->i4 (z.allG k)/\(z.allG k).opn=[]
 |0,z,hk,h=>⟨h,zBb (Nat.le_zero.1 hk)⟩
 |k+1,z,hk,h=>yK k z.shut (by rw[xI];omega) (rC h).1
theorem Jk{par:Str}{l:List Node}{t:Str}(h:ox par l)(hv:ew par=false)(hr:raw par=false)(ht:Rt t)(hne:t≠[]):ox par (ej l t):=by
 have new:fy false l=false->ox par (l++[⟨2,[],[],t,[]⟩]):=fun hl=>by
  refine m4 h ?_ rfl (by simp) rfl rfl (oz hv hr (by simp))
  simp[b5,dY.2 ht,hne,hl]
 unfold ej;split
 ·rename_i n hn
  split
  ·rename_i hk
   obtain⟨l0,rfl⟩:=zEi.1 hn;rw[zFe];obtain⟨h1,h2,h3⟩:=h;obtain⟨m1,m2,m3⟩:=(uy _ _ _).1 h1;obtain⟨a1,a2,a3,a4⟩:=(vc _ _).1 h2;rw[zGf,zAd]at h3;rcases ii m2 with⟨e,_⟩|⟨_,n1,n2,n3,n4,n5⟩
   ·omega
   ·refine m4 ⟨m1,a1,h3.1⟩ ?_ m3 (by simp) a3 a4 (oz hv hr (by simp))
    have:=n5 hk;have hra:right (n.text++t)=true:=dY.2 ((dY.1 n4).append ht);simp[b5,n1,n2,n3,hra,this.1,this.2]
  ·rename_i hk
   exact new (by simp[fy,hn,hk])
 ·rename_i hn
  exact new (by simp[fy,hn])
theorem Lc{nm u:Str}(hn:raw nm=true)(h1:(u.take nm.length).map aH=nm){c:UInt8}(h2:u[nm.length]?=some c)(h3:rQ c=true):br u=nm.length:=by
 have hnm:=ik (l6 hn)
 have hlen:nm.length<=u.length:=by
  have:=(zAh.1 h2).1;omega
 have hu:u=u.take nm.length++c::u.drop (nm.length+1):=by
  rw[<-bo h2,zCg]
 have hcn:bU c.toNat=false:=by
  simp only[rQ,Ct,zBc,decide_eq_true_eq]at h3;simp only[bU,bB,zBi,zDg,decide_eq_false_iff_not];omega
 have hall:∀b∈u.take nm.length,bU b.toNat=true:=fun b hb=>by
  have hm:aH b∈nm:=by rw[<-h1];exact List.mem_map_of_mem hb
  have:=hnm _ hm;have hbb:=b.toNat_lt;simp only[bU,bB,zBc,zAd,decide_eq_true_eq];by_cases hu:65<=b.toNat/\b.toNat<=90
  ·omega
  ·rw[ku hu]at this
   omega
 have hlt:(u.take nm.length).length=nm.length:=by rw[zAf];omega
 have key:ai bU u=nm.length:=by
  rw[hu,lY _ hall,dF hcn,hlt];rfl
 cases u with
 |nil=>have:=(zAh.1 h2).1;simp at this
 |cons b t=>
   obtain⟨x,y,hxy,hx1,hx2⟩:=il (l6 hn)
   have hl:bB b.toNat=true:=by
    have:aH b=x:=by
     rw[hxy,zAc,zBd,zBf]at h1;exact(List.cons.inj h1).1
    have hbb:=b.toNat_lt;simp only[bB,zBc,zAd,decide_eq_true_eq];by_cases hu:65<=b.toNat/\b.toNat<=90
    ·exact .inl hu
    ·rw[ku hu]at this
     rw[this];exact .inr ⟨hx1,hx2⟩
   simp only[br,if_pos hl];exact key
theorem kB{nm s:Str}(h:ci nm s=true):∃u,s=60::47::u:=by
 have h60:∀b:UInt8,aH b=60->b=60:=fun b hb=>m7 (by decide) hb
 have h47:∀b:UInt8,aH b=47->b=47:=fun b hb=>m7 (by decide) hb
 simp only[ci,zAd,decide_eq_true_eq]at h;have h1:=h.1
 match s,h1 with
 |[],h1=>simp at h1
 |[a],h1=>
   have:=congrArg zBj h1;simp at this;omega
 |a::b::u,h1=>
   rw[show 2+nm.length=nm.length+1+1 by omega,zBd,zBd,zBf,zBf]at h1
   simp only[zBa,zBh,zGc]at h1;exact⟨u,by rw[h60 a h1.1,h47 b h1.2.1]⟩
theorem w8{nm s:Str}(hn:raw nm=true)(h:ci nm s=true):cm s=(lX,s.length)\/∃k,cm s=(⟨2,nm,[],[]⟩,k):=by
 obtain⟨u,rfl⟩:=kB h;rw[oO,jV,zAd,decide_eq_true_eq]at h;obtain⟨h1,h2⟩:=h
 obtain⟨c,hc⟩:∃c,u[nm.length]?=some c:=by
  cases hg:u[nm.length]? with
  |none=>rw[hg]at h2;cases h2
  |some c=>exact⟨c,rfl⟩
 rw[hc]at h2;have ht:=Lc hn h1 hc h2;have hpos:nm.length≠0:=by obtain⟨x,y,e,_⟩:=il (l6 hn);rw[e];simp
 unfold cm;rw[if_neg (by simp[aA]),if_pos (by simp)]
 unfold tp;simp only[zFg,zFd,ht];rw[if_neg hpos];split
 ·exact .inl rfl
 ·rw[h1]
  exact .inr ⟨_,rfl⟩
theorem yZ{nm:Str}(hn:named nm=true){u v:Str}(h:ci nm (u++60::v)=true)(h0:0<u.length)(h1:u.length<3+nm.length):False:=by
 simp only[ci,zAd,decide_eq_true_eq]at h;obtain⟨h2,h3⟩:=h;rcases zDb u.length (2+nm.length)with hlt|hge
 ·have h4:(((u++60::v).take (2+nm.length)).map aH)[u.length]?=some 60:=by
   rw[List.getElem?_map,zDa,if_pos hlt,m5];rfl
  rw[h2]at h4
  have h5:(60:UInt8)∈47::nm:=by
   refine zDh (i:=u.length-1) ?_;rw[show u.length=(u.length-1)+1 by omega]at h4
   simpa using h4
  rcases zAj.1 h5 with h6|h6
  ·exact absurd h6 (by decide)
  ·have:=ik hn _ h6
   simp at this
 ·rw[show 2+nm.length=u.length by omega,m5]at h3
  exact absurd h3 (by decide)
theorem uS(nm:Str):∀(s:Str)(k:Nat),a8 nm k s=-1\/(k:Int)<=a8 nm k s
 |[],k=>.inl rfl
 |b::t,k=>by
   simp only[a8];split
   ·exact .inr (Int.le_refl _)
   ·have:=uS nm t (k+1)
    omega
theorem uY:∀s:Str,aZ s<s.length->s[aZ s]?=some 60
 |[],h=>by simp at h
 |b::t,h=>by
   simp only[aZ]at h⊢;split
   ·rename_i hs
    rw[j5 hs];rfl
   ·rename_i hs
    rw[if_neg hs]at h;rw[zFa];exact uY t (by simpa using h)
theorem oL{nm:Str}:∀(s:Str)(k:Nat),a8 nm k s=-1->∀i,ci nm (s.drop i)=true->False
 |[],k,_,i,hi=>by
   simp only[zGh]at hi;obtain⟨u,h⟩:=kB hi;cases h
 |b::t,k,h,i,hi=>by
   simp only[a8]at h;split at h
   ·omega
   ·rename_i hf
    cases i with
    |zero=>exact hf hi
    |succ i=>exact oL t (k+1) h i hi
theorem oJ{nm:Str}:∀(s:Str)(k n:Nat),a8 nm k s=((k+n:Nat):Int)->ci nm (s.drop n)=true/\∀i,i<n->ci nm (s.drop i)=true->False
 |[],k,n,h=>by simp only[a8]at h;omega
 |b::t,k,n,h=>by
   simp only[a8]at h;split at h
   ·rename_i hf
    have:n=0:=by omega
    subst this;exact⟨hf,fun i hi=>by omega⟩
   ·rename_i hf
    cases n with
    |zero=>
      exfalso;have:=uS nm t (k+1);omega
    |succ n=>
      obtain⟨h1,h2⟩:=oJ t (k+1) n (by rw[h];omega)
      refine⟨h1,fun i hi h3=>?_⟩;cases i with
      |zero=>exact hf h3
      |succ i=>exact h2 i (by omega) h3
theorem vP{nm:Str}:∀(s:Str)(k n:Nat),ci nm (s.drop n)=true->(∀i,i<n->ci nm (s.drop i)=true->False)->a8 nm k s=((k+n:Nat):Int)
 |[],k,n,h,_=>by
   simp only[zGh]at h;obtain⟨u,e⟩:=kB h;cases e
 |b::t,k,0,h,_=>by
   simp only[zFd]at h;simp only[a8,if_pos h];rfl
 |b::t,k,n+1,h,hno=>by
   have hb:¬ci nm (b::t)=true:=fun e=>hno 0 (by omega) e
   simp only[a8,if_neg hb];have:=vP t (k+1) n (by simpa using h) (fun i hi e=>hno (i+1) (by omega) (by simpa using e))
   rw[this];omega
theorem Jy{nm:Str}(h:named nm=true)(R:Str):ci nm (aJ nm++R)=true:=by
 have e:aJ nm++R=60::47::(nm++62::R):=by simp[aJ]
 have g:(nm++62::R)[nm.length]?=some 62:=m5 _ _ _;rw[e,oO,jV,zEb,io h,g];simp[iG,rQ]
theorem FA{nm t:Str}(hn:named nm=true)(h:∀i,i<t.length->ci nm (t.drop i)=true->False):ends (t++aJ nm) nm=t.length:=by
 unfold ends
 have:=vP (nm:=nm) (t++aJ nm) 0 t.length (by
  rw[zEa];have:=Jy hn [];rwa[zGd]at this) (fun i hi e=>?_)
 ·simpa using this
 ·rw[zCe (by omega)]at e
  rcases zDb (t.drop i).length (3+nm.length)with h1|h1
  ·exact yZ hn (u:=t.drop i) (v:=47::(nm++[62])) e (by rw[zAb];omega) h1
  ·rw[uT h1]at e
   exact h i hi e
theorem Kd{nm s:Str}(hn:raw nm=true)(hs:Rt s):ends (s.take (eo s nm)++aJ nm) nm=(s.take (eo s nm)).length/\(s.drop (eo s nm)=[]\/ci nm (s.drop (eo s nm))=true)/\Rt (s.take (eo s nm))/\Rt (s.drop (eo s nm)):=by
 have hnm:=l6 hn;unfold eo;split
 ·rename_i h
  have h1:ends s nm=-1:=by
   have:=uS nm s 0;unfold ends at h⊢;omega
  rw[List.take_length,List.drop_length];exact⟨FA hnm fun i _ e=>oL s 0 h1 i e,.inl rfl,hs,Rt.nil⟩
 ·rename_i h
  obtain⟨n,hnn⟩:∃n:Nat,ends s nm=n:=⟨(ends s nm).toNat,by omega⟩
  rw[hnn];simp only[zEf];obtain⟨h1,h2⟩:=oJ s 0 n (by simpa[ends]using hnn)
  obtain⟨u,hu⟩:=kB h1
  have hcut:=hs.at (k:=n) (.inr (.inr (.inl ⟨60,by
   have:(s.drop n)[0]?=some 60:=by rw[hu];rfl
   simpa[zBg]using this,by decide⟩)))
  refine⟨FA hnm fun i hi e=>?_,.inr h1,hcut.1,hcut.2⟩;rw[zAf]at hi;refine h2 i (by omega) ?_
  have hlen:3+nm.length<=((s.take n).drop i).length:=by
   simp only[ci,zAd,decide_eq_true_eq]at e;rcases zDb (2+nm.length) ((s.take n).drop i).length with h3|h3
   ·omega
   ·rw[List.getElem?_eq_none h3]at e
    exact absurd e.2 (by simp)
  have:s.drop i=(s.take n).drop i++s.drop n:=by
   rw[<-zCe (by rw[zAf];omega),zCg]
  rw[this,uT hlen];exact e
theorem N6:∀(n:Nat)(s:Str)(z:Zp),s.length<=n->Rt s->i4 z->(raw z.ctx=true->s=[]\/ci z.ctx s=true)->i4 ((aO s).foldl cA z):=by
 intro n
 induction n with
 |zero=>
   intro s z hl _ hz _;have:s=[]:=zBb (by omega)
   subst this;exact hz
 |succ n ih=>
   intro s z hl h hz hraw;by_cases hne:s=[]
   ·subst hne;exact hz
   have hlp:0<s.length:=zCi.2 hne;have hvoid:ew z.ctx=false:=by rw[Zp.ctx_eq];exact uK hz
   have nraw:∀{A:Prop},(raw z.ctx=true->A)->(raw z.ctx=false->A)->A:=fun h1 h2=>by
    cases hc:raw z.ctx with
    |true=>exact h1 hc
    |false=>exact h2 hc
   by_cases hst:aA s=true
   ·obtain⟨ht,hd,hk⟩:=CM h hst
    have hkl:=qT s;generalize htg:cm s=tg at *;obtain⟨t,k⟩:=tg;simp only at ht hd hk hkl;have hdl:(s.drop k).length<=n:=by rw[zAb];omega
    by_cases h0:t.kind=0
    ·rw[xB hne htg hk h0]
     refine ih _ z hdl hd hz fun hr=>?_;rcases hraw hr with e|e
     ·exact(hne e).elim
     ·rcases w8 hr e with e2|⟨k',e2⟩
      ·rw[htg]at e2
       cases e2;exact .inl (by simp)
      ·rw[htg]at e2
       cases e2;simp at h0
    ·by_cases h1:t.kind=1
     ·have hr:raw z.ctx=false:=nraw (fun hr=>by
       rcases hraw hr with e|e
       ·exact(hne e).elim
       ·rcases w8 hr e with e2|⟨k',e2⟩<;>rw[htg]at e2<;>cases e2<;>simp[lX]at h1) id
      obtain⟨n1,n2,n3,_⟩:=ht.1 h1;obtain⟨c1,c2,c3⟩:=sX (nm:=t.name) z.opn.length z (zBe _) hz hr;have cv:ew (z.closeW t.name).ctx=false:=by rw[Zp.ctx_eq];exact uK c1
      by_cases hrn:raw t.name=true
      ·have hv:ew t.name=false:=by
        simp only[raw,zBc,decide_eq_true_eq]at hrn;rcases hrn with e|e<;>rw[e]<;>decide
       obtain⟨r1,r2,r3,r4⟩:=Kd hrn hd;have e1:cA z t=⟨(z.closeW t.name).out,⟨t.name,t.attrs,[]⟩::(z.closeW t.name).opn⟩:=by simp[cA,h1,hv]
       have g1:∀ks,ox t.name ks->i4 ⟨(z.closeW t.name).out,⟨t.name,t.attrs,ks⟩::(z.closeW t.name).opn⟩:=fun ks hks=>by
        rw[Zp.ctx_eq]at c2 c3;exact⟨⟨n1,hv,n2,n3⟩,hks,c2,c3,c1⟩
       rw[ud hne htg hk h1 hrn,zCc,e1];by_cases hz0:eo (s.drop k) t.name=0
       ·rw[if_pos hz0]
        refine ih _ _ hdl hd (g1 [] ⟨rfl,rfl,rfl⟩) fun _=>?_;rw[hz0,zFd]at r2;exact r2
       ·rw[if_neg hz0,zCc]
        have hdd:(s.drop k).drop (eo (s.drop k) t.name)=[]\/ci t.name ((s.drop k).drop (eo (s.drop k) t.name))=true:=r2;by_cases htx:(s.drop k).take (eo (s.drop k) t.name)=[]
        ·have e2:cA ⟨(z.closeW t.name).out,⟨t.name,t.attrs,[]⟩::(z.closeW t.name).opn⟩ ⟨3,[],[],(s.drop k).take (eo (s.drop k) t.name)⟩=⟨(z.closeW t.name).out,⟨t.name,t.attrs,[]⟩::(z.closeW t.name).opn⟩:=by simp[cA,htx]
         rw[e2];exact ih _ _ (by rw[zAb];omega) r4 (g1 [] ⟨rfl,rfl,rfl⟩) fun _=>hdd
        ·have e2:cA ⟨(z.closeW t.name).out,⟨t.name,t.attrs,[]⟩::(z.closeW t.name).opn⟩ ⟨3,[],[],(s.drop k).take (eo (s.drop k) t.name)⟩=⟨(z.closeW t.name).out,⟨t.name,t.attrs,[⟨2,[],[],(s.drop k).take (eo (s.drop k) t.name),[]⟩]⟩::(z.closeW t.name).opn⟩:=by
          simp[cA,htx,Zp.setCur,Zp.cur,ej]
         rw[e2];refine ih _ _ (by rw[zAb];omega) r4 (g1 _ ?_) fun _=>hdd
         have ho:b5 ⟨2,[],[],(s.drop k).take (eo (s.drop k) t.name),[]⟩ false=0:=by simp[b5,dY.2 r3,htx]
         refine m4 (l:=[]) ⟨rfl,rfl,rfl⟩ ho rfl (by simp) rfl rfl ?_
         have r1':ends ((s.drop k).take (eo (s.drop k) t.name)++[60,47]++t.name++[62]) t.name=((s.drop k).take (eo (s.drop k) t.name)).length:=by
          have:(s.drop k).take (eo (s.drop k) t.name)++[60,47]++t.name++[62]=(s.drop k).take (eo (s.drop k) t.name)++aJ t.name:=by simp[aJ]
          rw[this];exact r1
         simp only[bw,hv,hrn,r1'];simp
      ·have hrn':raw t.name=false:=by simpa using hrn
       rw[jU hne htg hk h0 (fun e=>hrn e.2),zCc];by_cases hv:ew t.name=true
       ·have e1:cA z t=(z.closeW t.name).push ⟨1,t.name,t.attrs,[],[]⟩:=by simp[cA,h1,hv]
        rw[e1];refine ih _ _ hdl hd (rD c1 (Kg _ n1 n2 n3) rfl (by simp) rfl rfl (He cv c2 c3)) fun hr'=>?_
        rw[Zp.push_setCur,Zp.ctx_setCur]at hr';have:raw (z.closeW t.name).ctx=false:=c2;rw[this]at hr';cases hr'
       ·have e1:cA z t=⟨(z.closeW t.name).out,⟨t.name,t.attrs,[]⟩::(z.closeW t.name).opn⟩:=by simp[cA,h1,hv]
        rw[e1];refine ih _ _ hdl hd ?_ fun hr'=>?_
        ·rw[Zp.ctx_eq]at c2 c3
         exact⟨⟨n1,by simpa using hv,n2,n3⟩,⟨rfl,rfl,rfl⟩,c2,c3,c1⟩
        ·simp only[Zp.ctx]at hr'
         rw[hrn']at hr';cases hr'
     ·rw[jU hne htg hk h0 (fun e=>h1 e.1),zCc]
      by_cases h2:t.kind=2
      ·by_cases hh:z.has t.name=true
       ·have e1:cA z t=z.endG t.name z.opn.length:=by simp[cA,h2,hh]
        obtain⟨g1,g2⟩:=yJ (nm:=t.name) z.opn.length z (zBe _) hz hh;rw[e1];refine ih _ _ hdl hd g1 fun hr'=>?_;rw[g2]at hr';cases hr'
       ·have e1:cA z t=z:=by simp[cA,h2,hh]
        rw[e1];refine ih _ _ hdl hd hz fun hr=>?_;exfalso;rcases hraw hr with e|e
        ·exact hne e
        ·rcases w8 hr e with e2|⟨k',e2⟩
         ·rw[htg]at e2
          cases e2;simp[lX]at h2
         ·rw[htg]at e2
          cases e2;apply hh;obtain⟨out,opn⟩:=z;cases opn with
          |nil=>rw[show(Zp.mk out []).ctx=[]from rfl]at hr;rw[Kc]at hr;cases hr
          |cons f fs=>simp[Zp.has,Zp.ctx]
      ·have hr:raw z.ctx=false:=nraw (fun hr=>by
        rcases hraw hr with e|e
        ·exact(hne e).elim
        ·rcases w8 hr e with e2|⟨k',e2⟩<;>rw[htg]at e2<;>cases e2
         ·simp[lX]at h0
         ·simp at h2) id
       have h3:=ht.2.2.1;by_cases h4:t.kind=4
       ·obtain⟨n1,n2⟩:=ht.2.1 h4
        have e1:cA z t=z.push ⟨3,[],[],t.text,[]⟩:=by simp[cA,h4]
        rw[e1];refine ih _ _ hdl hd (rD hz ?_ rfl (fun _=>n2) rfl rfl (oz hvoid hr (by simp))) fun hr'=>?_
        ·simp[b5,dY.2 n1]
        ·rw[Zp.push_setCur,Zp.ctx_setCur,hr]at hr'
         cases hr'
       ·have e1:cA z t=z:=by simp[cA,h1,h2,h3,h4]
        rw[e1];refine ih _ _ hdl hd hz fun hr'=>?_;rw[hr]at hr';cases hr'
   ·have hst':aA s=false:=by simpa using hst
    have hr:raw z.ctx=false:=nraw (fun hr=>by
     rcases hraw hr with e|e
     ·exact(hne e).elim
     ·obtain⟨u,rfl⟩:=kB e
      simp[aA]at hst') id
    have hcp:=kE hne hst'
    have hcut:Rt (s.take (aZ s))/\Rt (s.drop (aZ s)):=by
     refine h.at ?_;rcases zDb (aZ s) s.length with hlt|hge
     ·refine .inr (.inr (.inl ⟨60,?_,by decide⟩))
      exact uY s hlt
     ·exact .inr (.inl hge)
    rw[nR hne hst',zCc]
    have htne:s.take (aZ s)≠[]:=fun e=>by
     have:=congrArg zBj e;rw[zAf,zAg]at this;omega
    have hdne:=hcut.1.dec_ne htne;have e1:cA z ⟨3,[],[],i7 (s.take (aZ s))⟩=z.setCur (ej z.cur (i7 (s.take (aZ s)))):=by simp[cA,hdne]
    rw[e1];refine ih _ _ (by rw[zAb];omega) hcut.2 (sW hz (Jk (Ca hz) hvoid hr hcut.1.dec hdne)) fun hr'=>?_
    rw[Zp.ctx_setCur,hr]at hr';cases hr'
theorem n8{s:Str}(h:Rt s):b6 (cN (aO s))=true:=by
 have h1:=N6 s.length s ⟨[],[]⟩ (zBe _) h ⟨rfl,rfl,rfl⟩ (fun hr=>by
  have:raw (Zp.mk [] []).ctx=false:=Kc;rw[this]at hr;cases hr)
 obtain⟨h2,h3⟩:=yK _ _ (zBe _) h1;unfold cN Zp.all;generalize Zp.allG (zHb cA ⟨[],[]⟩ (aO s)).opn.length (zHb cA ⟨[],[]⟩ (aO s))=z at *;obtain⟨out,opn⟩:=z;simp only at h3;subst h3;obtain⟨g1,g2,_⟩:=(h2:ox [] out);simp[b6,may,g1,g2]
def dn(l:List Attr):Nat:=(l.map fun a=>a.name.length+6*a.value.length+5).sum
theorem Cv(l:List Attr)(a:Attr):dn (l++[a])=dn l+(a.name.length+6*a.value.length+5):=by simp[dn]
theorem zA:∀l:List Attr,5*l.length<=dn l
 |[]=>by simp[dn]
 |a::l=>by
   have:=zA l;simp only[dn,zBf,zEd,zAc]at this⊢;omega
theorem zz:∀{l:List Attr}{a:Attr},a∈l->a.name.length+6*a.value.length<=dn l
 |[],a,h=>by cases h
 |b::l,a,h=>by
   simp only[dn,zBf,zEd];rcases zAj.1 h with rfl|h
   ·omega
   ·have:=zz h
    simp only[dn]at this;omega
def uf(A B:Nat)(t:Tok):Nat:=if t.kind=2 then 0 else A+B*(2*t.name.length+6*t.text.length+dn t.attrs)
mutual
def wN(A B:Nat):Node->Nat
 |⟨_,nm,a,t,ks⟩=>A+B*(2*nm.length+6*t.length+dn a)+wNs A B ks
def wNs(A B:Nat):List Node->Nat
 |[]=>0
 |n::l=>wN A B n+wNs A B l
end
theorem fN(A B:Nat)(n:Node):wN A B n=A+B*(2*n.name.length+6*n.text.length+dn n.attrs)+wNs A B n.kids:=by cases n;simp[wN]
theorem cj(A B:Nat):∀(a b:List Node),wNs A B (a++b)=wNs A B a+wNs A B b
 |[],b=>by simp[wNs]
 |n::a,b=>by simp only[zBa,wNs,cj A B a b];omega
theorem jF(A B:Nat)(n:Node):wNs A B [n]=wN A B n:=by simp[wNs]
theorem PB:∀l:List Node,aj l=wNs 1 0 l:=by
 refine aC (p:=fun l=>aj l=wNs 1 0 l) rfl ?_;intro n l h1 h2;simp only[aj,wNs,ef,fN,h1,h2];omega
def wF(A B:Nat)(f:Fr):Nat:=A+B*(2*f.name.length+dn f.attrs)+wNs A B f.kids
def wFs(A B:Nat):List Fr->Nat
 |[]=>0
 |f::l=>wF A B f+wFs A B l
def wZ(A B:Nat)(z:Zp):Nat:=wNs A B z.out+wFs A B z.opn
theorem CH(A B:Nat)(z:Zp)(n:Node):wZ A B (z.push n)=wZ A B z+wN A B n:=by
 obtain⟨out,opn⟩:=z;cases opn with
 |nil=>simp only[Zp.push,wZ,cj,jF,wFs];omega
 |cons f l=>simp only[Zp.push,wZ,wFs,wF,cj,jF];omega
theorem w6(A B:Nat)(z:Zp):wZ A B z.shut=wZ A B z:=by
 obtain⟨out,opn⟩:=z;cases opn with
 |nil=>rfl
 |cons f l=>
   simp only[Zp.shut];rw[CH];simp only[wZ,wFs,wF,fN,zAg];have e:B*(2*f.name.length+6*0+dn f.attrs)=B*(2*f.name.length+dn f.attrs):=by simp
   rw[e];omega
theorem ub(A B:Nat)(nm:Str):∀(k:Nat)(z:Zp),wZ A B (z.closeG nm k)=wZ A B z
 |0,z=>rfl
 |k+1,z=>by
   simp only[Zp.closeG];split
   ·rfl
   ·split
    ·rw[ub A B nm k,w6]
    ·rfl
theorem JZ(A B:Nat)(nm:Str):∀(k:Nat)(z:Zp),wZ A B (z.endG nm k)=wZ A B z
 |0,z=>rfl
 |k+1,z=>by
   simp only[Zp.endG];split
   ·rfl
   ·split
    ·rw[w6]
    ·rw[JZ A B nm k,w6]
theorem J2(A B:Nat):∀(k:Nat)(z:Zp),wZ A B (z.allG k)=wZ A B z
 |0,z=>rfl
 |k+1,z=>by simp only[Zp.allG];rw[J2 A B k,w6]
theorem K6(A B:Nat)(z:Zp)(l:List Node):wZ A B (z.setCur l)+wNs A B z.cur=wZ A B z+wNs A B l:=by
 obtain⟨out,opn⟩:=z;cases opn with
 |nil=>simp only[Zp.setCur,Zp.cur,wZ,wFs];omega
 |cons f fs=>simp only[Zp.setCur,Zp.cur,wZ,wFs,wF];omega
theorem NL(A B:Nat)(l:List Node)(t:Str):wNs A B (ej l t)<=wNs A B l+(A+B*(6*t.length)):=by
 have new:wNs A B (l++[⟨2,[],[],t,[]⟩])<=wNs A B l+(A+B*(6*t.length)):=by
  rw[cj,jF,fN];simp only[zAg,dn,zCf,zDc,wNs];have e:B*(2*0+6*t.length+0)=B*(6*t.length):=by simp
  rw[e];omega
 unfold ej;split
 ·rename_i n hn
  split
  ·obtain⟨l0,rfl⟩:=zEi.1 hn
   rw[zFe,cj,cj,jF,jF,fN,fN];simp only[zAe];have e:B*(2*n.name.length+6*(n.text.length+t.length)+dn n.attrs)=B*(2*n.name.length+6*n.text.length+dn n.attrs)+B*(6*t.length):=by rw[<-Nat.mul_add];congr 1;omega
   rw[e];omega
  ·exact new
 ·exact new
theorem TV(A B:Nat)(z:Zp)(t:Tok):wZ A B (cA z t)<=wZ A B z+uf A B t:=by
 have hT:uf A B t=if t.kind=2 then 0 else A+B*(2*t.name.length+6*t.text.length+dn t.attrs):=rfl
 unfold cA;split
 ·rename_i h1
  rw[if_neg (by omega)]at hT
  rw[hT];have hb:B*(2*t.name.length+dn t.attrs)<=B*(2*t.name.length+6*t.text.length+dn t.attrs):=zDj _ (by omega)
  split
  ·rw[CH,Zp.closeW,ub,fN]
   simp only[zAg,wNs];have e:B*(2*t.name.length+6*0+dn t.attrs)=B*(2*t.name.length+dn t.attrs):=by simp
   rw[e];omega
  ·have h2:=ub A B t.name z.opn.length z
   show wNs A B (z.closeW t.name).out+(wF A B ⟨t.name,t.attrs,[]⟩+wFs A B (z.closeW t.name).opn)<=_
   have h3:wNs A B (z.closeW t.name).out+wFs A B (z.closeW t.name).opn=wZ A B z:=h2;simp only[wF,wNs];omega
 ·rename_i h1
  split
  ·rename_i h2
   rw[if_pos h2]at hT;rw[hT];split
   ·rw[JZ];omega
   ·omega
  ·rename_i h2
   rw[if_neg h2]at hT;rw[hT];split
   ·split
    ·omega
    ·have h3:=K6 A B z (ej z.cur t.text)
     have h4:=NL A B z.cur t.text;have hb:B*(6*t.text.length)<=B*(2*t.name.length+6*t.text.length+dn t.attrs):=zDj _ (by omega)
     omega
   ·split
    ·rw[CH,fN]
     simp only[zAg,dn,zCf,zDc,wNs];have hb:B*(2*0+6*t.text.length+0)<=B*(2*t.name.length+6*t.text.length+(zEj (fun a=>a.name.length+6*a.value.length+5) t.attrs).sum):=zDj _ (by omega)
     omega
    ·omega
def qU(A B:Nat):List Tok->Nat
 |[]=>0
 |t::ts=>uf A B t+qU A B ts
theorem JY(A B:Nat):∀(ts:List Tok)(z:Zp),wZ A B (ts.foldl cA z)<=wZ A B z+qU A B ts
 |[],z=>by simp[qU]
 |t::ts,z=>by
   have h1:=TV A B z t;have h2:=JY A B ts (cA z t);simp only[zCc,qU];omega
theorem EW(A B:Nat)(ts:List Tok):wNs A B (cN ts)<=qU A B ts:=by
 have h1:=JY A B ts ⟨[],[]⟩;have h2:=J2 A B (ts.foldl cA ⟨[],[]⟩).opn.length (ts.foldl cA ⟨[],[]⟩);have h3:wZ A B ⟨[],[]⟩=0:=rfl;unfold cN Zp.all;have h4:wNs A B (Zp.allG (ts.foldl cA ⟨[],[]⟩).opn.length (ts.foldl cA ⟨[],[]⟩)).out<=wZ A B (Zp.allG (ts.foldl cA ⟨[],[]⟩).opn.length (ts.foldl cA ⟨[],[]⟩)):=by simp only[wZ];omega
 omega
theorem T8{s nm:Str}{i:Nat}(h:Rt (s.drop i))(hi:i<=s.length):i+(xv s nm i).1.value.length<=(xv s nm i).2:=by
 unfold xv;split
 ·simp
 ·rename_i q hq
  have hd:=bo hq;split
  ·rename_i hqq
   have h5:Rt (s.drop (i+1)):=by rw[hd]at h;exact h.tail (by omega)
   have h6:=pq (p:=cJ q.toNat) (fun r hr=>by simp[cJ];omega) h5
   split
   ·simpa using hi
   ·have:=h6.1.dec_len
    simp only[zAf]at this;simp only;omega
  ·have h6:=pq (p:=mA) (fun r hr=>tV hr) h
   have:=h6.1.dec_len;simp only[zAf]at this;simp only;omega
theorem SR{s:Str}(h:Rt s):(eP s).1.name.length+(eP s).1.value.length<=(eP s).2:=by
 have h1:=pq (p:=aQ) (fun r hr=>tX hr) h;have h2:=kX (p:=bd) (fun r hr=>eY hr) h1.2;have hle:=b7 aQ s;have hle2:=b7 bd (s.drop (ai aQ s));simp only[zAb]at hle2;have h3:=h2.2;rw[zAi]at h3;have hnl:((s.take (ai aQ s)).map aH).length=ai aQ s:=by rw[zCb,zAf];omega
 unfold eP;split
 ·rename_i hq
  have hd:=bo hq;have hlt:=(zAh.1 hq).1;rw[hd]at h3;have h4:=h3.tail (by decide)
  have h5:=(kX (p:=bd) (fun r hr=>eY hr) h4).2;rw[zAi]at h5;have hle3:=b7 bd (s.drop (ai aQ s+ai bd (s.drop (ai aQ s))+1));simp only[zAb]at hle3;have:=T8 (nm:=(s.take (ai aQ s)).map aH) h5 (by omega)
  have hn:=(J3 (nm:=(s.take (ai aQ s)).map aH) h5).1;rw[hn,hnl];omega
 ·simp only[hnl,zAg]
  omega
theorem PW{s:Str}:∀{f i:Nat}{l:List Attr}{p:List Attr×Nat},my f s i l=some p->Rt (s.drop i)->dn l<=11*i->dn p.1<=11*p.2/\i<=p.2
 |0,_,_,_,h,_,_=>by simp[my]at h
 |f+1,i,l,p,h,hr,hl=>by
   simp only[my]at h;have h1:=(kX (p:=bZ) (fun r hr=>si hr) hr).2;rw[zAi]at h1;split at h
   ·cases h
   ·rename_i b hb
    have hd:=bo hb;split at h
    ·rename_i h62
     cases h;exact⟨by simp only;omega,by simp only;omega⟩
    ·rename_i h62
     have hstop:bZ b.toNat=false:=j7 (p:=bZ) (s:=s.drop i) (b:=b) (by rw[zBg];exact hb)
     have hat:0<ai aQ (s.drop (i+ai bZ (s.drop i))):=by
      rw[hd,bJ,if_pos]
      ·omega
      ·simp only[bZ,zBi,decide_eq_false_iff_not]at hstop
       simp[aQ,hstop.1.1,hstop.1.2,hstop.2,h62]
     obtain⟨_,_,_,_,k5⟩:=HO h1 hat;have hw:=SR h1;have hrange:=lD (s.drop (i+ai bZ (s.drop i)));rw[zAi]at k5
     obtain⟨g1,g2⟩:=PW h k5 (by
      split
      ·omega
      ·rw[Cv]
       omega)
     exact⟨g1,by omega⟩
theorem Uc{s:Str}(h:Rt s)(hs:aA s=true)(hk:(cm s).1.kind≠0):uf 10 1 (cm s).1<=30*(cm s).2:=by
 have hpos:=(CM h hs).2.2
 have hlo:∃b t,s=60::b::t:=by
  match s,hs with
  |[],hs=>simp[aA]at hs
  |[a],hs=>simp[aA]at hs
  |a::b::t,hs=>exact⟨b,t,by rw[j5 hs]⟩
 obtain⟨b,t,e⟩:=hlo;have hlen:2<=s.length:=by rw[e];simp
 have cmt:∀(k:Nat)(mark:Str),1<=k->k<=s.length->uf 10 1 (rT s k mark).1<=30*(rT s k mark).2:=by
  intro k mark hk1 hk2;unfold rT;split
  ·simp only[uf,zAb,zAg,dn,zCf,zDc]
   simp only[show ¬((4:Nat)=2) by decide,if_false]
   omega
  ·simp only[uf,zAf,zAb,zAg,dn,zCf,zDc]
   simp only[show ¬((4:Nat)=2) by decide,if_false]
   omega
 have cmtp:uf 10 1 (oT s).1<=30*(oT s).2:=by
  unfold oT;split
  ·rename_i hb
   have:=cu hb;exact cmt 4 _ (by omega) (by simpa using this)
  ·exact cmt 2 _ (by omega) hlen
 revert hk hpos;unfold cm;rw[if_neg (by simp[hs])]
 split
 ·intro hpos hk
  revert hk hpos;unfold tp;split
  ·split
   ·intro hk;exact(hk rfl).elim
   ·intro _ _;exact cmtp
  ·split
   ·intro hk;exact(hk rfl).elim
   ·intro _ _
    simp[uf]
 ·split
  ·intro _ _;exact cmtp
  ·rename_i h47 h33
   intro hpos hk;have g1:s[1]?=some b:=by rw[e];rfl
   have hlet:bB b.toNat=true:=by
    rw[e]at hs;simp only[aA,zAd,zBc,decide_eq_true_eq]at hs;have u8:∀k:Nat,k<256->b.toNat=k->b=zHa k:=fun k hk e=>zGe.1 (by simp[zGb hk,e])
    rw[g1]at h47 h33;rcases hs.2 with hb|hb|hb|hb
    ·exact(h47 (by rw[u8 47 (by decide) hb];rfl)).elim
    ·exact(h33 (.inl (by rw[u8 33 (by decide) hb];rfl))).elim
    ·exact(h33 (.inr (by rw[u8 63 (by decide) hb];rfl))).elim
    ·exact hb
   have hd1:s.drop 1=b::t:=by rw[e];rfl
   have hrt1:Rt (s.drop 1):=by rw[hd1];rw[e]at h;exact h.tail (by decide)
   have e0:br (s.drop 1)=ai bU (s.drop 1):=by rw[hd1];simp only[br,if_pos hlet]
   have hrt2:Rt (s.drop (1+br (s.drop 1))):=by
    have:=(kX (p:=bU) (fun r hr=>pn hr) hrt1).2;rw[<-e0,zAi]at this;exact this
   revert hk hpos;unfold u5;split
   ·intro hk;exact(hk rfl).elim
   ·rename_i p hp
    intro hpos hk;obtain⟨g1,g2⟩:=PW hp hrt2 (by simp[dn])
    simp only[uf,zCb,zAf,zAg];simp only[show ¬((1:Nat)=2) by decide,if_false]
    simp only at hpos;omega
theorem NR:∀(n:Nat)(s:Str),s.length<=n->Rt s->qU 10 1 (aO s)<=30*s.length/\(aO s).length<=s.length/\∀t∈aO s,t.text.length<=n/\t.attrs.length<=n:=by
 intro n
 induction n with
 |zero=>
   intro s hl _;have:s=[]:=zBb (by omega)
   subst this;rw[ue];exact⟨by simp[qU],by simp,fun t ht=>by cases ht⟩
 |succ n ih=>
   intro s hl h;by_cases hne:s=[]
   ·subst hne
    rw[ue];exact⟨by simp[qU],by simp,fun t ht=>by cases ht⟩
   have hlp:0<s.length:=zCi.2 hne;have mono:∀{u:Str},(∀t∈aO u,t.text.length<=n/\t.attrs.length<=n)->∀t∈aO u,t.text.length<=n+1/\t.attrs.length<=n+1:=fun{u} hu t ht=>by have:=hu t ht;omega
   by_cases hst:aA s=true
   ·obtain⟨ht,hd,hk⟩:=CM h hst
    have hkl:=qT s;have hw:=Uc h hst;generalize htg:cm s=tg at *;obtain⟨t,k⟩:=tg;simp only at ht hd hk hkl hw;have hdl:(s.drop k).length<=n:=by rw[zAb];omega
    obtain⟨i1,i2,i3⟩:=ih (s.drop k) hdl hd;have hdk:(s.drop k).length=s.length-k:=zAb ..
    have hts:t.text.length<=n+1/\t.attrs.length<=n+1:=by
     have:=ht.2.2.2;omega
    by_cases h0:t.kind=0
    ·rw[xB hne htg hk h0]
     exact⟨by omega,by omega,mono i3⟩
    ·have hw0:=hw h0
     by_cases h1:t.kind=1/\raw t.name=true
     ·rw[ud hne htg hk h1.1 h1.2]
      obtain⟨r1,r2,r3,r4⟩:=Kd h1.2 hd;by_cases hz0:eo (s.drop k) t.name=0
      ·rw[if_pos hz0]
       simp only[qU,zAc];refine⟨by omega,by omega,fun u hu=>?_⟩
       rcases zAj.1 hu with rfl|hu
       ·exact hts
       ·exact mono i3 u hu
      ·rw[if_neg hz0]
       have hrl:eo (s.drop k) t.name<=(s.drop k).length:=by
        unfold eo;split
        ·exact zBe _
        ·have:=uQ t.name (s.drop k) 0
         unfold ends;omega
       obtain⟨j1,j2,j3⟩:=ih ((s.drop k).drop (eo (s.drop k) t.name)) (by rw[zAb];omega) r4
       have hdd:((s.drop k).drop (eo (s.drop k) t.name)).length=(s.drop k).length-eo (s.drop k) t.name:=zAb ..;have htk:((s.drop k).take (eo (s.drop k) t.name)).length=eo (s.drop k) t.name:=by rw[zAf];omega
       simp only[qU,zAc,uf,zAg,dn,zCf,zDc]at hw0⊢;simp only[show ¬((3:Nat)=2) by decide,if_false,htk]
       refine⟨by omega,by omega,fun u hu=>?_⟩
       rcases zAj.1 hu with rfl|hu
       ·exact hts
       ·rcases zAj.1 hu with rfl|hu
        ·simp only[htk,zAg];omega
        ·exact mono j3 u hu
     ·rw[jU hne htg hk h0 h1]
      simp only[qU,zAc];refine⟨by omega,by omega,fun u hu=>?_⟩
      rcases zAj.1 hu with rfl|hu
      ·exact hts
      ·exact mono i3 u hu
   ·have hst':aA s=false:=by simpa using hst
    have hcp:=kE hne hst';have hcl:=pH s
    have hcut:Rt (s.take (aZ s))/\Rt (s.drop (aZ s)):=by
     refine h.at ?_;rcases zDb (aZ s) s.length with hlt|hge
     ·exact .inr (.inr (.inl ⟨60,uY s hlt,by decide⟩))
     ·exact .inr (.inl hge)
    rw[nR hne hst'];have hdl:=hcut.1.dec_len;rw[zAf]at hdl;obtain⟨j1,j2,j3⟩:=ih (s.drop (aZ s)) (by rw[zAb];omega) hcut.2
    have hdd:(s.drop (aZ s)).length=s.length-aZ s:=zAb ..;simp only[qU,zAc,uf,zAg,dn,zCf,zDc];simp only[show ¬((3:Nat)=2) by decide,if_false]
    refine⟨by omega,by omega,fun u hu=>?_⟩
    rcases zAj.1 hu with rfl|hu
    ·simp only[zAg];omega
    ·exact mono j3 u hu
theorem E8:∀ts:List Tok,qU 1 0 ts<=ts.length
 |[]=>by simp[qU]
 |t::ts=>by
   have:=E8 ts;simp only[qU,uf,zAc];split<;>omega
theorem Is{s:Str}(h:Rt s):wNs 10 1 (cN (aO s))<=30*s.length/\aj (cN (aO s))<=s.length:=by
 obtain⟨h1,h2,_⟩:=NR s.length s (zBe _) h;have h3:=EW 10 1 (aO s);have h4:=EW 1 0 (aO s);have h5:=E8 (aO s);rw[PB];omega
theorem tj(v:Bool):∀s:Str,(bN v s).length<=6*s.length
 |[]=>by simp[bN]
 |c::s=>by
   have h1:=tj v s;have h2:=Hx v c;simp only[bN,zAe,zAc];omega
theorem tW:∀l:List Attr,(aW l).length<=dn l
 |[]=>by simp[aW]
 |a::l=>by
   have h1:=tW l;have h2:=tj true a.value;simp only[dn]at h1;simp only[aW,dn,zBf,zEd,zAc,zAe];omega
theorem Bj:∀(l:List Node)(rw:Bool),(wrL rw l).length<=wNs 10 1 l:=by
 refine aC (p:=fun l=>∀rw,(wrL rw l).length<=wNs 10 1 l) (fun rw=>by simp[wrL]) ?_
 intro n l h1 h2 rw;have g1:=h1 (raw n.name);have g2:=h2 rw;have g3:=tW n.attrs;have g4:=tj false n.text;simp only[wrL,wNs,zAe,qO,fN];split
 ·split
  ·simp only[bL,zAc,zAe,zAg];omega
  ·simp only[bL,aJ,zAc,zAe,zAg];omega
 ·split
  ·split<;>omega
  ·split
   ·simp only[oS,zAc,zAe,zAg];omega
   ·simp only[zAg];omega
theorem NK:∀(l:List Node)(m:Nat),wNs 10 1 l<=m->ar (fun n=>n.name.length<=m/\n.text.length<=m/\n.attrs.length<=m/\(∀a∈n.attrs,a.name.length<=m/\a.value.length<=m)/\n.kids.length<=m) l:=by
 refine aC (p:=fun l=>∀m,wNs 10 1 l<=m->ar _ l) (fun m _=>trivial) ?_;intro n l h1 h2 m hm;simp only[wNs,fN]at hm;simp only[ar,fc];have g1:=zA n.attrs;have g2:=c6 n.kids
 have g3:aj n.kids<=wNs 10 1 n.kids:=by
  rw[PB]
  have:∀l:List Node,wNs 1 0 l<=wNs 10 1 l:=by
   refine aC (p:=fun l=>wNs 1 0 l<=wNs 10 1 l) (zBe _) ?_;intro n l h1 h2;simp only[wNs,fN];omega
  exact this _
 refine⟨⟨⟨by omega,by omega,by omega,fun a ha=>by have:=zz ha;omega,by omega⟩,h1 m (by omega)⟩,h2 m (by omega)⟩
end Go.Abs.F
end
section
namespace Go.Abs.F
open Go.Proofs Go.RowKit
attribute [-simp] getElem?_pos zFj zGi
abbrev Lv:Type:=Option Node×List Node
def ofV:Option Node->V
 |none=>.nilptr
 |some n=>.sptr n.v 0
def lvV(x:Lv):V:=.strct [ofV x.1,.seq 5 (x.2.map Node.v)]
def rwF:Option Node->Bool
 |none=>false
 |some n=>raw n.name
def Mz:Option Node->Str
 |none=>[]
 |some n=>aJ n.name
def Oh:List Lv->Str
 |[]=>[]
 |x::S=>wrL (rwF x.1) x.2++(Mz x.1++Oh S)
def Lz(W:List Lv):Str:=Oh W.reverse
theorem ib(W:List Lv)(x:Lv):Lz (W++[x])=wrL (rwF x.1) x.2++(Mz x.1++Lz W):=by simp[Lz,Oh]
def xA:List Node->Bool
 |[]=>false
 |n::l=>(decide (n.kind=1)||(decide (n.kind=2)||decide (n.kind=3)))||xA l
def fin(a:V)(W:List Lv):V:=cond (W.any (fun x=>x.1.isSome||xA x.2)) (.q 0 1 0 0 0) a
theorem Kz(W:List Lv):fin (.q 0 1 0 0 0) W=.q 0 1 0 0 0:=by unfold fin;cases W.any (fun x=>x.1.isSome||xA x.2)<;>rfl
theorem Pp(a:V)(W:List Lv)(x y:Lv)(h:(x.1.isSome||xA x.2)=(y.1.isSome||xA y.2)):fin a (W++[x])=fin a (W++[y]):=by
 unfold fin;rw[zCd,zCd];simp only[zFf,zGj,h]
theorem Pq(a:V)(W:List Lv)(x:Lv)(h:(x.1.isSome||xA x.2)=false):fin a (W++[x])=fin a W:=by
 unfold fin;rw[zCd];simp only[zFf,zGj,h,Bool.or_false]
def lvM(W:List Lv):Nat:=(W.map fun x=>1+2*aj x.2).sum
theorem bY(a b:List Lv):lvM (a++b)=lvM a+lvM b:=by simp[lvM]
theorem fD(x:Lv):lvM [x]=1+2*aj x.2:=by simp[lvM]
theorem Kn:∀W:List Lv,W.length<=lvM W
 |[]=>by simp[lvM]
 |p::W=>by
   have:=Kn W;simp only[lvM,zBf,zEd,zAc]at this⊢;omega
def RY(x:Lv):Prop:=∀n,x.1=some n->n.kind=1/\ew n.name=false
theorem Eo(l:List Node){a:V}(s:Str)(ha:sbA a)(hl:s.length+(wrL false l).length<=1000000000)(hc:aj l<=100000000):
 FnH Tryz.prog C4 [] [.seq 5 (l.map Node.v),LA] (sbH a s) (.tup []) (sbH (fin a [(none,l)]) (s++wrL false l)):=by
 have hmin:∀l:List Node,1<=(1:Nat):=fun _=>zBe _;refine FnH.of_image mixed DW DA rfl fun ho hh=>?_;unfold tz;clear ho hh;simp(disch:=omega) [-zAa];generalize hA:fin a [(none,l)]=A;generalize hR:s++wrL false l=R at hl⊢;have hRl:R.length<=1000000000:=by rw[<-hR,zAe];exact hl
 refine ay (fun(q:V×Str×List Lv)=>⟨[(1,LA),(4,.ref 1 q.2.2.length)],[some (.pool [.byt 5 q.2.1,.bx 99 [q.1,.q 1 0 q.2.1.length 0 0]]),some (.arr 136 2 (q.2.2.map lvV))]⟩)
  (fun q=>sbA q.1/\fin q.1 q.2.2=A/\q.2.1++Lz q.2.2=R/\lvM q.2.2<=200000001/\∀x∈q.2.2,RY x) (fun q=>lvM q.2.2) [] _ (a,s,[(none,l)]) rfl (by simp[lvV,ofV])
  ⟨ha,hA,by rw[<-hR];simp[Lz,Oh,rwF,Mz],by rw[fD];simp only;omega,fun x hx=>by obtain rfl:=zEc.1 hx;intro n hn;cases hn⟩ ?_
 rintro⟨b,t,W⟩ ⟨hb,hf,hr,hm,hok⟩ N hN;simp only at hb hf hr hm hok;rcases zFc W with rfl|⟨W0,p,rfl⟩
 ·have e1:b=A:=by rw[<-hf];rfl
  have e2:t=R:=by rw[<-hr];simp[Lz,Oh]
  subst e1;subst e2;simp(disch:=omega) [-zAa]
 ·rw[List.concat_eq_append]at *
  obtain⟨o,r⟩:=p;have hg:∀v:V,(zEj lvV W0++[v])[W0.length]?=some v:=fun v=>by rw[List.getElem?_append_right (by simp)];simp
  rw[ib]at hr;have hpm:=fD (o,r);rw[bY]at hm;have hwl:=Kn W0;have hok0:∀x∈W0,RY x:=fun x hx=>hok x (by simp[hx])
  have hrl:=congrArg zBj hr;simp only[zAe]at hrl;cases r with
  |nil=>
    simp only[wrL,zBh]at hr hrl;cases o with
    |none=>
      simp(disch:=omega) [-zAa,lvV,ofV,hg,St.isNil];refine hN.out _<|Nx.mk (b,t,W0) (by simp) ⟨hb,?_,by simpa[Mz]using hr,by simp only;omega,hok0⟩ (by simp only[bY];omega)
      rw[<-hf,Pq _ _ _ (by simp[xA])]
    |some n=>
      obtain⟨k1,k2⟩:=hok (some n,[]) (by simp) n rfl
      simp only[Mz]at hr hrl;simp(disch:=omega) [-zAa,lvV,ofV,hg,St.isNil];refine ah [] 1 [0] (by simp) (by simp) (by simp) (by simp) (Hh n k1 k2 t hb (by omega)) (by simp) fun _ _=>?_
      simp(disch:=omega) [-zAa,lvV,ofV,hg,St.isNil];refine hN.out _<|Nx.mk (.q 0 1 0 0 0,t++aJ n.name,W0) (by simp) ⟨dS,?_,by simpa using hr,by simp only;omega,hok0⟩ (by simp only[bY];omega)
      rw[<-hf,Kz];simp[fin]
  |cons n r=>
    have hgs:∀v u:V,(zEj lvV W0++[v]).set W0.length u=zEj lvV W0++[u]:=fun v u=>by
     rw[List.set_append,if_neg (by simp)]
     simp
    have hr3:=hr;simp only[wrL,qO,zDd]at hr3;have hcn:aj (n::r)=1+aj n.kids+aj r:=by simp only[aj,ef]
    simp only at hpm;rw[hcn]at hpm;have hrn:=c6 r;have hkn:=c6 n.kids;have hoo:∀l,RY (o,l):=fun l m hm=>hok (o,n::r) (by simp) m hm
    have hnil:St.isNil 0 true (ofV o)=some (decide (o=none)):=by cases o<;>rfl
    have htk:zGg r.length (zEj Node.v r)=zEj Node.v r:=List.take_of_length_le (by simp)
    have hokr:∀x∈W0++[(o,r)],RY x:=fun x hx=>by
     rcases zCj.1 hx with hx|hx
     ·exact hok0 x hx
     ·obtain rfl:=zEc.1 hx
      exact hoo r
    obtain⟨kd,nm,at',tx,ks⟩:=n;simp only at hr3 hcn hkn hpm hnil;by_cases h1:kd=1
    ·subst h1
     rw[if_pos rfl]at hr3
     have hfin:∀V,fin (.q 0 1 0 0 0) V=A:=fun V=>by
      rw[Kz,<-hf];simp[fin,xA,zCd]
     by_cases hv:ew nm=true
     ·simp only[hv,if_true]at hr3
      have hrl:=congrArg zBj hr3;simp only[zAe]at hrl;simp(disch:=omega) [-zAa,lvV,hg,hgs,htk];refine ah [] 1 [0] (by simp) (by simp) (by simp) (by simp) (ql ⟨1,nm,at',tx,ks⟩ rfl t hb (by simp only;omega)) (by simp) fun _ _=>?_
      simp(disch:=omega) [-zAa,lvV,hg,hgs,htk];refine ac (iz nm) rfl fun _=>?_;simp(disch:=omega) [-zAa,lvV,hv];exact hN.out _<|Nx.mk (.q 0 1 0 0 0,t++bL nm at',W0++[(o,r)]) (by simp[lvV]) ⟨dS,hfin _,by rw[ib];simpa using hr3,by simp only[bY,fD];omega,hokr⟩ (by simp only[bY,fD];omega)
     ·have hv':ew nm=false:=by simpa using hv
      simp only[hv',zFi,if_false,zDd]at hr3;have hrl:=congrArg zBj hr3;simp only[zAe]at hrl;simp(disch:=omega) [-zAa,lvV,hg,hgs,htk];refine ah [] 1 [0] (by simp) (by simp) (by simp) (by simp) (ql ⟨1,nm,at',tx,ks⟩ rfl t hb (by simp only;omega)) (by simp) fun _ _=>?_
      simp(disch:=omega) [-zAa,lvV,hg,hgs,htk];refine ac (iz nm) rfl fun _=>?_;simp(disch:=omega) [-zAa,lvV,hv']
      exact hN.out _<|Nx.mk (.q 0 1 0 0 0,t++bL nm at',W0++[(o,r)]++[(some ⟨1,nm,at',tx,ks⟩,ks)]) (by simp[lvV,ofV]) ⟨dS,hfin _,by rw[ib,ib];simpa[rwF,Mz]using hr3,by simp only[bY,fD];omega,fun x hx=>by
       rcases zCj.1 hx with hx|hx
       ·exact hokr x hx
       ·obtain rfl:=zEc.1 hx
        intro m hm;cases hm;exact⟨rfl,hv'⟩⟩ (by simp only[bY,fD];omega)
    ·rw[if_neg h1]at hr3
     by_cases h2:kd=2
     ·subst h2
      rw[if_pos rfl]at hr3
      have hfin:∀V,fin (.q 0 1 0 0 0) V=A:=fun V=>by
       rw[Kz,<-hf];simp[fin,xA,zCd]
      have hge:=EG false tx
      have hend:∀u,(if rwF o=true then tx else bN false tx)=u->N ⟨[(1,LA),(4,.ref 1 (W0.length+1))],[some (.pool [.byt 5 (t++u),.bx 99 [.q 0 1 0 0 0,.q 1 0 (t++u).length 0 0]]),some (.arr 136 2 (W0.map lvV++[lvV (o,r)]))]⟩:=by
       intro u hu;rw[hu]at hr3;exact hN.out _<|Nx.mk (.q 0 1 0 0 0,t++u,W0++[(o,r)]) (by simp) ⟨dS,hfin _,by rw[ib];simpa using hr3,by simp only[bY,fD];omega,hokr⟩ (by simp only[bY,fD];omega)
      have hrl:=congrArg zBj hr3;simp only[zAe]at hrl
      have plain:rwF o=false->t.length+(bN false tx).length<=1000000000/\tx.length<=1000000000:=by
       intro h;simp only[h,zFi,if_false]at hrl;omega
      cases o with
      |none=>
        obtain⟨p1,p2⟩:=plain rfl;simp(disch:=omega) [-zAa,lvV,ofV,hg,hgs,htk,St.isNil];refine ac (lL tx false p2) rfl fun _=>?_;simp(disch:=omega) [-zAa];refine ah [] 1 [0] (by simp) (by simp) (by simp) (by simp) (i6 t (bN false tx) hb p1) (by simp) fun _ _=>?_
        simp(disch:=omega) [-zAa];simpa[lvV,ofV]using hend (bN false tx) (by simp[rwF])
      |some m=>
        by_cases hrw:raw m.name=true
        ·simp only[rwF,hrw,if_true]at hrl
         simp(disch:=omega) [-zAa,lvV,ofV,hg,hgs,htk,St.isNil];refine ac (uO m.name) rfl fun _=>?_;simp(disch:=omega) [-zAa,hrw];refine ah [] 1 [0] (by simp) (by simp) (by simp) (by simp) (i6 t tx hb (by omega)) (by simp) fun _ _=>?_
         simp(disch:=omega) [-zAa];simpa[lvV,ofV]using hend tx (by simp[rwF,hrw])
        ·obtain⟨p1,p2⟩:=plain (by simpa[rwF]using hrw)
         simp(disch:=omega) [-zAa,lvV,ofV,hg,hgs,htk,St.isNil];refine ac (uO m.name) rfl fun _=>?_;simp(disch:=omega) [-zAa,hrw];refine ac (lL tx false p2) rfl fun _=>?_;simp(disch:=omega) [-zAa];refine ah [] 1 [0] (by simp) (by simp) (by simp) (by simp) (i6 t (bN false tx) hb p1) (by simp) fun _ _=>?_
         simp(disch:=omega) [-zAa];simpa[lvV,ofV]using hend (bN false tx) (by simp[rwF,hrw])
     ·rw[if_neg h2]at hr3
      by_cases h3:kd=3
      ·subst h3
       rw[if_pos rfl]at hr3
       have hfin:∀V,fin (.q 0 1 0 0 0) V=A:=fun V=>by
        rw[Kz,<-hf];simp[fin,xA,zCd]
       have hrl:=congrArg zBj hr3;simp only[zAe,oS,zAc,zAg]at hrl;simp(disch:=omega) [-zAa,lvV,hg,hgs,htk];refine ah [] 1 [0] (by simp) (by simp) (by simp) (by simp) (i6 t [60,33,45,45] hb (by simp;omega)) (by simp) fun _ _=>?_
       simp(disch:=omega) [-zAa];refine ah [] 1 [0] (by simp) (by simp) (by simp) (by simp) (i6 (t++[60,33,45,45]) tx dS (by simp;omega)) (by simp) fun _ _=>?_
       simp(disch:=omega) [-zAa];refine ah [] 1 [0] (by simp) (by simp) (by simp) (by simp) (i6 (t++[60,33,45,45]++tx) [45,45,62] dS (by simp;omega)) (by simp) fun _ _=>?_
       simp(disch:=omega) [-zAa];exact hN.out _<|Nx.mk (.q 0 1 0 0 0,t++[60,33,45,45]++tx++[45,45,62],W0++[(o,r)]) (by simp[lvV]) ⟨dS,hfin _,by rw[ib];simpa[oS]using hr3,by simp only[bY,fD];omega,hokr⟩ (by simp only[bY,fD];omega)
      ·rw[if_neg h3]at hr3
       simp(disch:=omega) [-zAa,lvV,hg,hgs,h1,h2,h3,htk];refine hN.out _<|Nx.mk (b,t,W0++[(o,r)]) (by simp[lvV]) ⟨hb,?_,by rw[ib];simpa using hr3,by simp only[bY,fD];omega,hokr⟩ (by simp only[bY,fD];omega)
       rw[<-hf];exact Pp _ _ _ _ (by simp[xA,h1,h2,h3])
theorem Ep(l:List Node)(hl:(wrL false l).length<=1000000000)(hc:aj l<=100000000):Fn Tryz.prog C5 [.seq 5 (l.map Node.v)] (.str (wrL false l)):=by
 refine FnE.fn ?_;refine FnE.of_imageQ mixed DX DB rfl fun ho=>?_;unfold tA;clear ho;simp(disch:=omega) [-zAa];refine ah [] 1 [0] (by simp) (by simp) (by simp) (by simp) (Eo l [] (a:=.nilptr) xc (by simpa using hl) hc) (by simp) fun _ _=>?_
 simp(disch:=omega) [-zAa];refine ah [] 1 [0] (by simp) (by simp) (by simp) (by simp[sbP]) (th (a:=fin .nilptr [(none,l)]) (s:=wrL false l)) (by simp[sbP]) fun _ _=>?_
 simp(disch:=omega) [-zAa];exact⟨_,1,_,rfl,rfl,rfl⟩
end Go.Abs.F
end
