/- closed of package regex: what it adds tyo the states that a word leads tyo. No condition. -/
import Derived.Test.YtnnbodoijkbceaaGreatDoorJTh7
import Derived.Test.YtnnbodoijkbceaaGreatDoorJTh10
set_option linter.all false
set_option maxHeartbeats 0
set_option maxRecDepth 100000
open List renaming reduceReplicate→zAa,mem_append→zAb,mem_of_getElem?→zAc,mem_cons→zAd,replicate→zAe,getElem?_replicate→zAf,getElem?_append_left→zAh,map_map→zAi,not_mem_nil→zAj,getElem?_eq_none→zBa,getElem?_set→zBd,length_cons→zBe,append_inj'→zBf,append_nil→zBg
open Option renaming not_isSome→zAg
open Nat renaming lt_or_ge→zBb,le_refl→zBi
open Option.some renaming injEq→zBc
open Prod.mk renaming injEq→zBh
section
namespace Go.Abs
open Go.Proofs Go.Aut
attribute [-simp] getElem?_pos zAg zAi
def eJ(mark:Nat):List NEdge->List Nat->List Nat->List Nat×List Nat
 |[],sn,l=>(sn,l)
 |e::es,sn,l=>if e.free=true/\¬sn[e.tyo]?=some mark then eJ mark es (sn.set e.tyo mark) (l++[e.tyo])else eJ mark es sn l
def q8(rows:List (List NEdge))(mark:Nat):Nat->Nat->List Nat->List Nat->Option (List Nat×List Nat)
 |0,_,_,_=>none
 |f+1,i,sn,l=>match l[i]? with
   |none=>some (sn,l)
   |some q=>q8 rows mark f (i+1) (eJ mark ((rows[q]?).getD []) sn l).1 (eJ mark ((rows[q]?).getD []) sn l).2
def bg(rows:List (List NEdge)):V:=.seq 1 (rows.map fun r=>.seq 4 (r.map NEdge.v))
structure RowsOK (n:Nat) (rows:List (List NEdge)):Prop where
 len:rows.length=n
 tyo:∀r∈rows,∀e∈r,e.tyo<n/\e.low<256/\e.high<256
 few:∀r∈rows,r.length<=1000000
theorem vZ{mark n:Nat}:∀(es:List NEdge)(sn l:List Nat),sn.length=n->(∀e∈es,e.tyo<n)->(∀q∈l,q<n)->(eJ mark es sn l).1.length=n/\(∀q∈(eJ mark es sn l).2,q<n)/\(eJ mark es sn l).2.length<=l.length+es.length
 |[],sn,l,h,_,hl=>⟨h,hl,by simp[eJ]⟩
 |e::es,sn,l,h,he,hl=>by
   simp only[eJ];split
   ·have:=vZ (mark:=mark) es (sn.set e.tyo mark) (l++[e.tyo]) (by simp[h]) (fun x hx=>he x (by simp[hx])) (fun q hq=>by
     rcases zAb.1 hq with hq|hq
     ·exact hl q hq
     ·simp at hq;subst hq;exact he e (by simp))
    refine⟨this.1,this.2.1,?_⟩;have h3:=this.2.2;simp only[List.length_append,zBe,List.length_nil]at h3⊢;omega
   ·have:=vZ (mark:=mark) es sn l h (fun x hx=>he x (by simp[hx])) hl
    refine⟨this.1,this.2.1,?_⟩;have h3:=this.2.2;simp only[zBe];omega
theorem pD{n:Nat}{rows:List (List NEdge)}(hR:RowsOK n rows)(hn:n<=1000000)(mark f0:Nat)(hf0:f0<=1000000)(hm:mark<=1000000)(sn l sn' l':List Nat)(hsn:sn.length=n)(hl:∀q∈l,q<n)(hll:l.length<=1000000)(hr:q8 rows mark f0 0 sn l=some (sn',l')):
 FnH Tryz.prog ze [1] [bg rows,.ref 0 n,nV mark,.ref 1 l.length] [some (.arr bQ 1 (sn.map nV)),some (.arr bQ 1 (l.map nV))] (.ref 1 l'.length) [some (.arr bQ 1 (sn'.map nV)),some (.arr bQ 1 (l'.map nV))]:=by
 refine yoH zH ?_;simp(disch:=omega) [-zAa,bg]
 refine au (fun(x:Nat×Nat×List Nat×List Nat)=>⟨[(0,bg rows),(1,.ref 0 n),(2,nV mark),(3,.ref 1 x.2.2.2.length),(9,nV x.2.1)],[some (.arr bQ 1 (x.2.2.1.map nV)),some (.arr bQ 1 (x.2.2.2.map nV))]⟩)
  (fun x=>x.1+x.2.1=f0/\x.2.2.1.length=n/\(∀q∈x.2.2.2,q<n)/\x.2.2.2.length<=1000000+1000000*x.2.1/\x.2.1<=x.2.2.2.length/\q8 rows mark x.1 x.2.1 x.2.2.1 x.2.2.2=some (sn',l')) (fun x=>x.1) [] _ (f0,0,sn,l) rfl (by simp[bg]) ⟨by simp,hsn,hl,by simpa using hll,by simp,hr⟩ ?_
 rintro⟨f,i,s,w⟩ ⟨hf,hs,hw,hwl,hiw,hgo⟩ N hN;simp only at hf hs hw hwl hiw hgo;cases f with
 |zero=>simp[q8]at hgo
 |succ f=>
 simp only[q8]at hgo;rcases zBb i w.length with hlt|hge
 ·obtain⟨q,hq⟩:=bq hlt
  have hqn:=hw q (zAc hq);obtain⟨r,hrr⟩:=bq (l:=rows) (k:=q) (by rw[hR.len];exact hqn)
  have hrm:=zAc hrr;have hrl:=hR.few r hrm;rw[hq]at hgo;simp only[hrr,Option.getD_some]at hgo;obtain⟨T,hT⟩:∃T,T=eJ mark r s w:=⟨_,rfl⟩;have hTl:=vZ (mark:=mark) r s w hs (fun e he=>(hR.tyo r hrm e he).1) hw;rw[<-hT]at hgo hTl;replace hgo:=hid hgo;simp(disch:=omega) [-zAa,bg,hq,hrr,hs]
  refine au (fun(x:Nat×List Nat×List Nat)=>⟨[(0,bg rows),(1,.ref 0 n),(2,nV mark),(3,.ref 1 x.2.2.length),(9,nV i),(24,.seq 4 (r.map NEdge.v)),(25,nV r.length),(26,nV x.1)],[some (.arr bQ 1 (x.2.1.map nV)),some (.arr bQ 1 (x.2.2.map nV))]⟩)
   (fun x=>x.1<=r.length/\x.2.1.length=n/\(∀q∈x.2.2,q<n)/\x.2.2.length<=1000000+1000000*i+x.1/\i<x.2.2.length/\eJ mark (r.drop x.1) x.2.1 x.2.2=T) (fun x=>r.length-x.1) [] _ (0,s,w) rfl (by simp[bg]) ⟨by simp,hs,hw,by simpa using hwl,hlt,by simp[hT]⟩ ?_
  clear hT;rintro⟨k,s2,w2⟩ ⟨hk,hs2,hw2,hwl2,hi2,hrow⟩ M hM;simp only at hk hs2 hw2 hwl2 hi2 hrow;rcases place r k hk with⟨he,hd⟩|⟨hlt2,e,hre,hd⟩<;>rw[hd]at hrow
  ·simp only[eJ]at hrow
   subst hrow;clear hM;simp(disch:=omega) [-zAa,bg,he];exact hN.out _<|Nx.mk (f,i+1,s2,w2) (by simp[bg]) ⟨by simp only;omega,hs2,hw2,by simp only;omega,by simp only;omega,by simpa using hgo.out⟩ (by simp only;omega)
  ·obtain⟨he1,he2,he3⟩:=hR.tyo r hrm e (zAc hre)
   obtain⟨v,hv⟩:=bq (l:=s2) (k:=e.tyo) (by omega)
   simp only[eJ,hv,zBc]at hrow;replace hrow:=hid hrow;simp(disch:=omega) [-zAa,bg,hre];by_cases hfr:e.high<e.low
   ·by_cases hvm:v=mark
    ·have h1:(e.high:Int)<e.low:=by omega
     have hrow:=hrow.out;rw[if_neg (fun h=>h.2 hvm)]at hrow;clear hN;simp(disch:=omega) [-zAa,hs2,hv,hfr,h1,hvm];exact hM.out _<|Nx.mk (k+1,s2,w2) (by simp[bg]) ⟨by simp only;omega,hs2,hw2,by simp only;omega,hi2,hrow⟩ (by simp only;omega)
    ·have h1:(e.high:Int)<e.low:=by omega
     have h2:¬(v:Int)=mark:=by omega
     have hrow:=hrow.out;rw[if_pos ⟨by simp[NEdge.free,hfr],hvm⟩]at hrow
     clear hN;simp(disch:=omega) [-zAa,hs2,hv,hfr,h1,hvm,h2]
     exact hM.out _<|Nx.mk (k+1,s2.set e.tyo mark,w2++[e.tyo]) (by simp[bg,List.map_set]) ⟨by simp only;omega,by simp[hs2],fun q hq=>by
      rcases zAb.1 hq with hq|hq
      ·exact hw2 q hq
      ·simp at hq;subst hq;exact he1,by simp;omega,by simp;omega,hrow⟩ (by simp only;omega)
   ·have h1:¬(e.high:Int)<e.low:=by omega
    have hrow:=hrow.out;rw[if_neg (fun h=>by simp[NEdge.free]at h;omega)]at hrow
    clear hN;simp(disch:=omega) [-zAa,hs2,hv,hfr,h1];exact hM.out _<|Nx.mk (k+1,s2,w2) (by simp[bg]) ⟨by simp only;omega,hs2,hw2,by simp only;omega,hi2,hrow⟩ (by simp only;omega)
 ·have:i=w.length:=by omega
  rw[zBa (by omega)]at hgo
  simp only[zBc,zBh]at hgo;obtain⟨rfl,rfl⟩:=hgo;subst this;clear hN hr;simp(disch:=omega) [-zAa,bg]
end Go.Abs
end
section
namespace Go.Abs
open Go.Aut
attribute [-simp] getElem?_pos zAg zAi
structure MInv (n mark:Nat) (sn l:List Nat):Prop where
 len:sn.length=n
 lt:∀q∈l,q<n
 nodup:l.Nodup
 mkd:∀q,q<n->(sn[q]?=some mark↔q∈l)
theorem MInv.add{n mark:Nat}{sn l:List Nat}(h:MInv n mark sn l){t:Nat}(ht:t<n)(hm:¬sn[t]?=some mark):MInv n mark (sn.set t mark) (l++[t]):=by
 have hnm:t ∉ l:=fun hl=>hm ((h.mkd t ht).2 hl);refine⟨by simp[h.len],fun q hq=>?_,?_,fun q hq=>?_⟩
 ·rcases zAb.1 hq with hq|hq
  ·exact h.lt q hq
  ·simp at hq;subst hq;exact ht
 ·rw[List.nodup_append]
  refine⟨h.nodup,by simp,fun a ha b hb=>?_⟩
  simp at hb;subst hb;exact fun e=>hnm (e ▸ ha)
 ·rw[zBd]
  by_cases he:t=q
  ·subst he
   simp[h.len,ht]
  ·rw[if_neg he,h.mkd q hq,zAb]
   simp only[zAd,zAj,or_false];exact⟨.inl,fun h=>h.resolve_right fun e=>he e.symm⟩
theorem v6{n mark:Nat}:∀(es:List NEdge)(sn l:List Nat),MInv n mark sn l->(∀e∈es,e.tyo<n)->
 MInv n mark (eJ mark es sn l).1 (eJ mark es sn l).2/\(∃t,(eJ mark es sn l).2=l++t)/\(∀x∈(eJ mark es sn l).2,x∈l\/∃e∈es,e.free=true/\x=e.tyo)/\∀e∈es,e.free=true->e.tyo∈(eJ mark es sn l).2
 |[],sn,l,h,_=>⟨h,⟨[],by simp[eJ]⟩,fun x hx=>.inl hx,fun e he=>by cases he⟩
 |e::es,sn,l,h,he=>by
   simp only[eJ];split
   ·rename_i hc
    obtain⟨h1,⟨t,h2⟩,h3,h4⟩:=v6 es _ _ (h.add (he e (by simp)) hc.2) fun x hx=>he x (by simp[hx])
    refine⟨h1,⟨[e.tyo]++t,by rw[h2];simp⟩,fun x hx=>?_,fun x hx hf=>?_⟩
    ·rcases h3 x hx with h|⟨y,hy,h⟩
     ·rcases zAb.1 h with h|h
      ·exact .inl h
      ·simp at h;exact .inr ⟨e,by simp,hc.1,h⟩
     ·exact .inr ⟨y,by simp[hy],h⟩
    ·rcases zAd.1 hx with rfl|hx
     ·rw[h2];simp
     ·exact h4 x hx hf
   ·rename_i hc
    obtain⟨h1,h2,h3,h4⟩:=v6 es sn l h fun x hx=>he x (by simp[hx])
    refine⟨h1,h2,fun x hx=>?_,fun x hx hf=>?_⟩
    ·rcases h3 x hx with h|⟨y,hy,h⟩
     ·exact .inl h
     ·exact .inr ⟨y,by simp[hy],h⟩
    ·rcases zAd.1 hx with rfl|hx
     ·obtain⟨t,ht⟩:=h2
      rw[ht,zAb];refine .inl ((h.mkd _ (he _ (by simp))).1 ?_)
      by_cases hm:sn[x.tyo]?=some mark
      ·exact hm
      ·exact absurd ⟨hf,hm⟩ hc
     ·exact h4 x hx hf
theorem l7 {n mark:Nat} {rows:List (List NEdge)} (hto:∀ r∈rows,∀ e∈r,e.tyo < n) {S:Nat→Prop} (hS:∀ q r,rows[q]?=some r→S q→∀ e∈r,e.free=true→S e.tyo):∀ (f i:Nat) (sn l:List Nat),MInv n mark sn l→(∀ x∈l,S x)→i≤l.length→
 (∀ j < i,∀ q r,l[j]?=some q→rows[q]?=some r→∀ e∈r,e.free=true→e.tyo∈l)→n < f + i→
 ∃ sn' l',q8 rows mark f i sn l=some (sn',l')∧MInv n mark sn' l'∧(∀ x∈l,x∈l')∧(∀ x∈l',S x)∧∀ q∈l',∀ r,rows[q]?=some r→∀ e∈r,e.free=true→e.tyo∈l'
 | 0,i,sn,l,h,_,hi,_,hf=>by
   have:=oG n l h.nodup h.lt
   omega
 | f + 1,i,sn,l,h,hl,hi,hcl,hf=>by
   simp only [q8]
   rcases zBb i l.length with hlt | hge
   · obtain ⟨q,hq⟩:=bq hlt
     rw [hq]
     simp only
     have hro:∀ e∈(rows[q]?).getD [],e.tyo < n:=fun e he=>by
      cases hr:rows[q]? with
      | none=>rw [hr] at he; simp at he
      | some r=>rw [hr] at he; exact hto r (zAc hr) e he
     obtain ⟨h1,⟨t,h2⟩,h3,h4⟩:=v6 (mark:=mark) _ sn l h hro
     obtain ⟨sn',l',k1,k2,k3,k4,k5⟩:=l7 hto hS f (i + 1) _ _ h1 (fun x hx=>by
      rcases h3 x hx with hx | ⟨e,he,hfr,rfl⟩
      · exact hl x hx
      · cases hr:rows[q]? with
        | none=>rw [hr] at he; simp at he
        | some r=>rw [hr] at he; exact hS q r hr (hl q (zAc hq)) e he hfr) (by rw [h2]; simp; omega) (fun j hj p r hp hr e he hfr=>by
      rw [h2] at hp
      rcases zBb j i with hji | hji
      · rw [zAh (by omega)] at hp
        rw [h2]
        exact zAb.2 (.inl (hcl j hji p r hp hr e he hfr))
      · have:j=i:=by omega
        subst this
        rw [zAh hlt,hq] at hp
        cases hp
        exact h4 e (by rw [hr]; exact he) hfr) (by omega)
     refine ⟨sn',l',k1,k2,fun x hx=>k3 x ?_,k4,k5⟩
     rw [h2]
     exact zAb.2 (.inl hx)
   · have:i=l.length:=by omega
     rw [zBa (by omega)]
     refine ⟨sn,l,rfl,h,fun x hx=>hx,hl,fun q hq r hr e he hfr=>?_⟩
     obtain ⟨j,hj,hjq⟩:=List.getElem_of_mem hq
     exact hcl j (by omega) q r (by rw [List.getElem?_eq_getElem hj,hjq]) hr e he hfr
def jI(mark b:Nat):List NEdge->List Nat->List Nat->List Nat×List Nat
 |[],sn,l=>(sn,l)
 |e::es,sn,l=>if(e.low<=b/\b<=e.high)/\¬sn[e.tyo]?=some mark then jI mark b es (sn.set e.tyo mark) (l++[e.tyo])else jI mark b es sn l
def lM(rows:List (List NEdge))(mark b:Nat):List Nat->List Nat->List Nat->List Nat×List Nat
 |[],sn,l=>(sn,l)
 |q::now,sn,l=>lM rows mark b now (jI mark b ((rows[q]?).getD []) sn l).1 (jI mark b ((rows[q]?).getD []) sn l).2
theorem qj{n mark b:Nat}:∀(es:List NEdge)(sn l:List Nat),MInv n mark sn l->(∀e∈es,e.tyo<n)->
 MInv n mark (jI mark b es sn l).1 (jI mark b es sn l).2/\∀x,x∈(jI mark b es sn l).2↔x∈l\/∃e∈es,(e.low<=b/\b<=e.high)/\x=e.tyo
 |[],sn,l,h,_=>⟨h,fun x=>by simp[jI]⟩
 |e::es,sn,l,h,he=>by
   simp only[jI];split
   ·rename_i hc
    obtain⟨h1,h2⟩:=qj (b:=b) es _ _ (h.add (he e (by simp)) hc.2) fun x hx=>he x (by simp[hx])
    refine⟨h1,fun x=>?_⟩;rw[h2];simp only[zAb,zAd,zAj,or_false,exists_eq_or_imp,hc.1,true_and,or_assoc]
   ·rename_i hc
    obtain⟨h1,h2⟩:=qj (b:=b) es sn l h fun x hx=>he x (by simp[hx])
    refine⟨h1,fun x=>?_⟩;rw[h2];simp only[zAd,exists_eq_or_imp];constructor
    ·rintro(h|h)
     ·exact .inl h
     ·exact .inr (.inr h)
    ·rintro(h3|⟨h3,rfl⟩|h3)
     ·exact .inl h3
     ·refine .inl ((h.mkd _ (he _ (by simp))).1 ?_)
      by_cases hm:sn[e.tyo]?=some mark
      ·exact hm
      ·exact absurd ⟨h3,hm⟩ hc
     ·exact .inr h3
theorem tz {n mark b:Nat} {rows:List (List NEdge)} (hto:∀ r∈rows,∀ e∈r,e.tyo < n):∀ (now sn l:List Nat),MInv n mark sn l→
 MInv n mark (lM rows mark b now sn l).1 (lM rows mark b now sn l).2∧∀ x,x∈(lM rows mark b now sn l).2↔x∈l∨∃ q∈now,∃ e∈(rows[q]?).getD [],(e.low≤b∧b≤e.high)∧x=e.tyo
 | [],sn,l,h=>⟨h,fun x=>by simp [lM]⟩
 | q::now,sn,l,h=>by
   simp only [lM]
   have hro:∀ e∈(rows[q]?).getD [],e.tyo < n:=fun e he=>by
    cases hr:rows[q]? with
    | none=>rw [hr] at he; simp at he
    | some r=>rw [hr] at he; exact hto r (zAc hr) e he
   obtain ⟨h1,h2⟩:=qj (b:=b) _ sn l h hro
   obtain ⟨h3,h4⟩:=tz (b:=b) hto now _ _ h1
   refine ⟨h3,fun x=>?_⟩
   rw [h4,h2]
   simp only [zAd,exists_eq_or_imp,or_assoc]
def Low(mark:Nat)(sn:List Nat):Prop:=∀q v:Nat,sn[q]?=some v->v<=mark
theorem Low.set{mark t:Nat}{sn:List Nat}(h:Low mark sn):Low mark (sn.set t mark):=fun q v hv=>by
 rw[zBd]at hv;split at hv
 ·split at hv
  ·cases hv;exact zBi _
  ·cases hv
 ·exact h q v hv
theorem Low.row{mark b:Nat}:∀(es:List NEdge)(sn l:List Nat),Low mark sn->Low mark (jI mark b es sn l).1
 |[],sn,l,h=>h
 |e::es,sn,l,h=>by
   simp only[jI];split
   ·exact Low.row es _ _ h.set
   ·exact Low.row es _ _ h
theorem Low.go{mark b:Nat}{rows:List (List NEdge)}:∀(now sn l:List Nat),Low mark sn->Low mark (lM rows mark b now sn l).1
 |[],sn,l,h=>h
 |q::now,sn,l,h=>by
   simp only[lM];exact Low.go now _ _ (Low.row _ _ _ h)
theorem Low.clr{mark:Nat}:∀(es:List NEdge)(sn l:List Nat),Low mark sn->Low mark (eJ mark es sn l).1
 |[],sn,l,h=>h
 |e::es,sn,l,h=>by
   simp only[eJ];split
   ·exact Low.clr es _ _ h.set
   ·exact Low.clr es _ _ h
theorem Low.cl{mark:Nat}{rows:List (List NEdge)}:∀(f i:Nat)(sn l sn' l':List Nat),Low mark sn->q8 rows mark f i sn l=some (sn',l')->Low mark sn'
 |0,i,sn,l,sn',l',h,hg=>by simp[q8]at hg
 |f+1,i,sn,l,sn',l',h,hg=>by
   simp only[q8]at hg;split at hg
   ·cases hg;exact h
   ·exact Low.cl f (i+1) _ _ _ _ (Low.clr _ _ _ h) hg
theorem MInv.fresh{n mark:Nat}{sn:List Nat}(hl:sn.length=n)(h:Low mark sn):MInv n (mark+1) sn []:=
 ⟨hl,fun q hq=>(by cases hq),List.nodup_nil,fun q hq=>⟨fun hm=>(by have:=h q _ hm;omega),fun hm=>(by cases hm)⟩⟩
end Go.Abs
end
section
namespace Go.Abs
open Go.Aut
attribute [-simp] getElem?_pos zAg zAi cl nt
def Bk(es:List NEdge)(q:Nat):List NEdge:=es.filter fun e=>decide (e.fr=q)
def bX(es:List NEdge)(n:Nat):List (List NEdge):=(List.range n).map (Bk es)
theorem qp{es:List NEdge}{n q:Nat}(h:q<n):(bX es n)[q]?=some (Bk es q):=by
 simp only[bX,List.getElem?_map,List.getElem?_range h,Option.map_some]
theorem lS{es:List NEdge}{q:Nat}{e:NEdge}:e∈Bk es q↔e∈es/\e.fr=q:=by simp[Bk]
theorem ov{N:Net}(h:N.ok):∀r∈bX N.edges N.n,∀e∈r,e.tyo<N.n:=fun r hr e he=>by
 simp only[bX,List.mem_map]at hr;obtain⟨q,_,rfl⟩:=hr;exact(h.ends e (lS.1 he).1).2.1
def ID(N:Net):Nat->Str->List Nat->List Nat->Bool
 |i,[],sn,_=>decide (sn[N.stop]?=some (i+1))
 |i,b::s,sn,now=>if now=[]then false else
   match q8 (bX N.edges N.n) (i+2) (N.n+1) 0 (lM (bX N.edges N.n) (i+2) b.toNat now sn []).1 (lM (bX N.edges N.n) (i+2) b.toNat now sn []).2 with
   |some (sn',now')=>ID N (i+1) s sn' now'
   |none=>false
def mtP(N:Net)(s:Str):Bool:=match q8 (bX N.edges N.n) 1 (N.n+1) 0 ((zAe N.n 0).set N.start 1) [N.start]with
 |some (sn,now)=>ID N 0 s sn now
 |none=>false
structure TInv (N:Net) (i:Nat) (u:List Nat) (sn now:List Nat):Prop where
 m:MInv N.n (i+1) sn now
 low:Low (i+1) sn
 rg:∀q,q∈now↔Rg N.edges [] q u
theorem Ic{E:List NEdge}{n:Nat}{l:List Nat}(hlt:∀q∈l,q<n)(hc:∀q∈l,∀r,(bX E n)[q]?=some r->∀e∈r,e.free=true->e.tyo∈l){p q:Nat}(hp:p∈l)(h:NReach E p q):q∈l:=by
 induction h with
 |refl=>exact hp
 |step _ h2 h3 h4 ih=>exact hc _ ih _ (qp (hlt _ ih)) _ (lS.2 ⟨h2,h4⟩) h3
theorem Sd{N:Net}{u:List Nat}:∀q r,(bX N.edges N.n)[q]?=some r->Rg N.edges [] q u->∀e∈r,e.free=true->Rg N.edges [] e.tyo u:=fun q r hr hq e he hf=>by
 have hlt:q<N.n:=by
  have:=(List.getElem?_eq_some_iff.1 hr).1;simpa[bX]using this
 rw[qp hlt]at hr;cases hr;obtain⟨h1,h2⟩:=lS.1 he;exact .free hq h1 hf h2
theorem TInv.begin{N:Net}(h:N.ok)(hs:N.start=0):∃sn now,q8 (bX N.edges N.n) 1 (N.n+1) 0 ((zAe N.n 0).set N.start 1) [N.start]=some (sn,now)/\TInv N 0 [] sn now:=by
 have h0:MInv N.n 1 (zAe N.n 0) []:=MInv.fresh (mark:=0) (by simp) fun q v hv=>by
  rw[zAf]at hv;split at hv
  ·cases hv;exact zBi _
  ·cases hv
 have hm:¬(zAe N.n 0)[N.start]?=some 1:=fun e=>by
  rw[zAf]at e;split at e<;>simp at e
 have h1:=h0.add h.start hm
 have hlow:Low 1 ((zAe N.n 0).set N.start 1):=Low.set fun q v hv=>by
  rw[zAf]at hv;split at hv
  ·cases hv;exact Nat.zero_le _
  ·cases hv
 obtain⟨sn,now,k1,k2,k3,k4,k5⟩:=l7 (ov h) (S:=fun q=>Rg N.edges [] q []) Sd (N.n+1) 0 _ [N.start] h1 (fun x hx=>by
  simp at hx;subst hx;rw[hs];exact .start) (by simp) (fun j hj=>by omega) (by omega)
 refine⟨sn,now,k1,k2,Low.cl _ _ _ _ _ _ hlow k1,fun q=>⟨k4 q,fun hq=>?_⟩⟩;rcases Rg.inv hq with⟨_,hr⟩|⟨u,c,e,he,_⟩
 ·exact Ic k2.lt k5 (k3 N.start (by simp)) (by rw[hs];exact hr)
 ·simp at he
theorem TInv.step {N:Net} (h:N.ok) {i:Nat} {u sn now:List Nat} (hI:TInv N i u sn now) {b:UInt8} (hb:32≤b.toNat∧b.toNat≤126):
 ∃ sn' now',q8 (bX N.edges N.n) (i + 2) (N.n + 1) 0 (lM (bX N.edges N.n) (i + 2) b.toNat now sn []).1 (lM (bX N.edges N.n) (i + 2) b.toNat now sn []).2=some (sn',now')∧TInv N (i + 1) (u++[b.toNat - 32]) sn' now':=by
 have hto:=ov h
 have hf:MInv N.n (i + 2) sn []:=MInv.fresh (mark:=i + 1) hI.m.len hI.low
 obtain ⟨h1,h2⟩:=tz (b:=b.toNat) hto now sn [] hf
 have hlow:Low (i + 2) (lM (bX N.edges N.n) (i + 2) b.toNat now sn []).1:=Low.go _ _ _ fun q v hv=>by have:=hI.low q v hv; omega
 have htk:∀ e:NEdge,tk e (b.toNat - 32)=true↔e.low≤b.toNat∧b.toNat≤e.high:=fun e=>by
  simp only [tk,decide_eq_true_eq]
  rw [show b.toNat - 32 + 32=b.toNat by omega]
 obtain ⟨sn',now',k1,k2,k3,k4,k5⟩:=l7 hto (S:=fun q=>Rg N.edges [] q (u++[b.toNat - 32])) Sd (N.n + 1) 0 _ _ h1 (fun x hx=>by
  rcases (h2 x).1 hx with hx | ⟨q,hq,e,he,ht,rfl⟩
  · cases hx
  · rw [qp (hI.m.lt q hq)] at he
    obtain ⟨g1,g2⟩:=lS.1 he
    exact .take ((hI.rg q).1 hq) g1 ((htk e).2 ht) (by omega) g2) (by omega) (fun j hj=>by omega) (by omega)
 refine ⟨sn',now',k1,k2,Low.cl _ _ _ _ _ _ hlow k1,fun q=>⟨k4 q,fun hq=>?_⟩⟩
 rcases Rg.inv hq with ⟨he,_⟩ | ⟨u',c,e,he,hc,hE,ht,hr,hn⟩
 · simp at he
 · obtain ⟨rfl,he2⟩:=zBf he rfl
   simp at he2
   subst he2
   have hq1:=(hI.rg e.fr).2 hr
   refine Ic k2.lt k5 (k3 e.tyo ((h2 e.tyo).2 (.inr ⟨e.fr,hq1,e,?_,(htk e).1 ht,rfl⟩))) hn
   rw [qp (hI.m.lt _ hq1)]
   exact lS.2 ⟨hE,rfl⟩
theorem IC{N:Net}(h:N.ok):∀(s:Str)(i:Nat)(u sn now:List Nat),gX s->TInv N i u sn now->(ID N i s sn now=true↔Rg N.edges [] N.stop (u++sw s))
 |[],i,u,sn,now,_,hI=>by
   simp only[ID,decide_eq_true_eq,sw,List.map_nil,zBg];rw[hI.m.mkd _ h.stop,hI.rg]
 |b::s,i,u,sn,now,hs,hI=>by
   have hb:=hs b (by simp)
   obtain⟨sn',now',k1,k2⟩:=hI.step h hb;have ih:=IC h s (i+1) _ _ _ (fun c hc=>hs c (by simp[hc])) k2
   simp only[ID];have e:u++sw (b::s)=u++[b.toNat-32]++sw s:=by simp[sw]
   rw[e,<-ih];split
   ·rename_i hn
    subst hn;simp only[Bool.false_eq_true,false_iff];rw[ih];intro hr
    -- none is reached by the longer yy,since none is by the shorter one
    have key:∀(v:List Nat)(q:Nat),Rg N.edges [] q (u++v)->∃p,Rg N.edges [] p u:=by
     intro v
     induction hv:v.length generalizing v with
     |zero=>intro q hq;rw[List.length_eq_zero_iff.1 hv,zBg]at hq;exact⟨q,hq⟩
     |succ m ihm=>
       intro q hq;rcases List.eq_nil_or_concat v with rfl|⟨l,x,rfl⟩
       ·simp at hv
       ·rcases Rg.inv hq with⟨he,_⟩|⟨u',c,e,he,_,_,_,hr,_⟩
        ·simp at he
        ·have:u++(l.concat x)=(u++l)++[x]:=by simp
         rw[this]at he;obtain⟨rfl,_⟩:=zBf he rfl;exact ihm l (by simpa using hv) e.fr hr
    rw[List.append_assoc]at hr;obtain⟨p,hp⟩:=key _ _ hr;have:=(hI.rg p).2 hp;cases this
   ·rw[k1]
theorem Vc{N:Net}(h:N.ok)(hs:N.start=0){s:Str}(hsg:gX s):mtP N s=true↔Rg N.edges [] N.stop (sw s):=by
 obtain⟨sn,now,k1,k2⟩:=TInv.begin h hs;rw[mtP,k1];simpa using IC h s 0 [] sn now hsg k2
end Go.Abs
end
section
namespace Go.Abs
open Go.Proofs Go.Aut
attribute [-simp] getElem?_pos zAg zAi
def Tg:Prop:=∀(x:Rx)(N:Net)(v:Str),N.ok->N.edges.length<=1000000->0<N.edges.length->Fn Tryz.prog dt [rxP x] (.strct (Net.c N))->v.length<=1000->Fn Tryz.prog d7 [rxP x,.str v] (.bool (mtP N v))
theorem Ph{s:Str}{x:Rx}(h:(s,x)∈iW)(v:Str)(R:Bool)(hM:v.all F.sign=true->Fn Tryz.prog d7 [rxP x,.str v] (.bool R))(hs:v.all F.sign=false->R=false):Fn Tryz.prog bv [(F.Constraint.mk 4 [] s).v,.str v] (.bool R):=by
 refine yoA ro ?_;simp(disch:=omega) [-zAa];refine ah (F.f_lang_isValue _) rfl fun _=>?_;cases hv:v.all F.sign with
 |false=>
   have:=hs hv;subst this;simp(disch:=omega) [-zAa]
 |true=>
   have hm:=hM hv;simp(disch:=omega) [-zAa];refine ay (VA h) (by simp) fun _=>?_
   simp(disch:=omega) [-zAa];refine ah hm rfl fun _=>?_;simp(disch:=omega) [-zAa]
theorem KX:iW.all (fun p=>match Ik p.2 with
 |some N=>decide (0<N.edges.length)
 |none=>false)=true:=by decide+kernel
theorem KW{s:Str}{x:Rx}(h:(s,x)∈iW):wfR x=true/\dY x<=2000/\fresh x<=100:=by
 simp only[iW,zAd,zBh,zAj,or_false]at h;rcases h with⟨_,rfl⟩|⟨_,rfl⟩|⟨_,rfl⟩|⟨_,rfl⟩|⟨_,rfl⟩|⟨_,rfl⟩|⟨_,rfl⟩|⟨_,rfl⟩|⟨_,rfl⟩
 all_goals decide
theorem MA(hM:Tg):NE:=fun s x v h hp hv=>by
 obtain⟨h1,h2,h3⟩:=KW h;obtain⟨N,hN,hs⟩:=K8 h1 (vq _) (vq _) (ql x _);have hok:=YA hs (by omega)
 have hne:0<N.edges.length:=by
  have:=List.all_eq_true.1 KX _ h;simp only[hN,decide_eq_true_eq]at this;exact this
 have hlen:=hs.len;have hnet:=f_Net x N h1 hN h2 (by omega)
 have hm:=hM x N v hok (by omega) hne hnet hv
 have hg:GoodC ⟨4,[],s⟩ x:=.mat h hp
 have key:gX v->(mtP N v=true↔F.allows12 ⟨4,[],s⟩ v=true):=fun hsg=>by
  rw[Vc hok hs.start hsg,hs.stop,hs.lang,G5 hg];exact⟨fun h=>⟨hsg,h⟩,fun h=>h.2⟩
 refine Ph h v _ (fun hsv=>?_) fun hsv=>?_
 ·have e:mtP N v=F.allows12 ⟨4,[],s⟩ v:=SP (key (Kd.1 hsv))
  rw[<-e];exact hm
 ·simp[F.allows12,hsv]
end Go.Abs
end
