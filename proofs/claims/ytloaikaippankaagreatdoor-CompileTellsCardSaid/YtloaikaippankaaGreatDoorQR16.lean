/- closed of package regex: what it adds to the states that a word leads to. No condition. -/
import Derived.Test.YtloaikaippankaaGreatDoorQTh7
import Derived.Test.YtloaikaippankaaGreatDoorQTh10
import Derived.Test.YtloaikaippankaaGreatDoorQR18
set_option linter.all false open List renaming reduceReplicate→zAa,mem_append→zAb,mem_of_getElem?→zAc,mem_cons→zAd,replicate→zAe,getElem?_replicate→zAf,getElem?_append_left→zAh,map_map→zAi,not_mem_nil→zAj,getElem?_eq_none→zBa,getElem?_set→zBd,length_cons→zBe,append_inj'→zBf,append_nil→zBg
open Option renaming not_isSome→zAg
open Nat renaming lt_or_ge→zBb,le_refl→zBi
open Option.some renaming injEq→zBc
open Prod.mk renaming injEq→zBh open Option renaming some→ś open Bool renaming true→ť
section
set_option maxHeartbeats 4000000
set_option maxRecDepth 100000
namespace Go.Abs
open Go.Proofs Go.Aut
attribute [-simp] getElem?_pos zAg zAi
def gV(mark:Nat):List NEdge->List Nat->List Nat->List Nat×List Nat
 |[],sn,l=>(sn,l)
 |e::es,sn,l=>if e.free=ť/\¬sn[e.to]?=ś mark then gV mark es (sn.set e.to mark) (l++[e.to])else gV mark es sn l
def yW(rows:List (List NEdge))(mark:Nat):Nat->Nat->List Nat->List Nat->Option (List Nat×List Nat)
 |0,_,_,_=>none
 |f+1,i,sn,l=>match l[i]? with
   |none=>ś (sn,l)
   |some q=>yW rows mark f (i+1) (gV mark ((rows[q]?).getD []) sn l).1 (gV mark ((rows[q]?).getD []) sn l).2
def bX(rows:List (List NEdge)):V:=.seq 1 (rows.map λr=>.seq 4 (r.map NEdge.v))
structure RowsOK (n:Nat) (rows:List (List NEdge)):Prop where
 len:rows.length=n
 to:∀r∈rows,∀e∈r,e.to<n/\e.low<256/\e.high<256
 few:∀r∈rows,r.length<=1000000
theorem Fx{mark n}:∀(es:List NEdge)(sn l:List Nat),sn.length=n->(∀e∈es,e.to<n)->(∀q∈l,q<n)->(gV mark es sn l).1.length=n/\(∀q∈(gV mark es sn l).2,q<n)/\(gV mark es sn l).2.length<=l.length+es.length
 |[],sn,l,h,_,hl=>⟨h,hl,by simp[gV]⟩
 |e::es,sn,l,h,he,hl=>by
   simp only[gV];split
   ·have:=Fx (mark:=mark) es (sn.set e.to mark) (l++[e.to]) (by simp[h]) (λx hx=>he x (by simp[hx])) (λq hq=>by
     grind)
    grind
   ·have:=Fx (mark:=mark) es sn l h (λx hx=>he x (by simp[hx])) hl
    grind
theorem w4{n rows}(hR:RowsOK n rows)(hn:n<=1000000)(mark f0)(hf0:f0<=1000000)(hm:mark<=1000000)(sn l sn' l')(hsn:sn.length=n)(hl:∀q∈l,q<n)(hll:l.length<=1000000)(hr:yW rows mark f0 0 sn l=ś (sn',l')):
 FnH Tryz.prog Jr [1] [bX rows,.ref 0 n,nV mark,.ref 1 l.length] [ś (.arr ap 1 (sn.map nV)),ś (.arr ap 1 (l.map nV))] (.ref 1 l'.length) [ś (.arr ap 1 (sn'.map nV)),ś (.arr ap 1 (l'.map nV))]:=by
 refine yoH JW ?_;simp(disch:=omega) [-zAa,bX]
 refine ah (λ(x:Nat×Nat×List Nat×List Nat)=>⟨[(0,bX rows),(1,.ref 0 n),(2,nV mark),(3,.ref 1 x.2.2.2.length),(9,nV x.2.1)],[ś (.arr ap 1 (x.2.2.1.map nV)),ś (.arr ap 1 (x.2.2.2.map nV))]⟩)
  (λx=>x.1+x.2.1=f0/\x.2.2.1.length=n/\(∀q∈x.2.2.2,q<n)/\x.2.2.2.length<=1000000+1000000*x.2.1/\x.2.1<=x.2.2.2.length/\yW rows mark x.1 x.2.1 x.2.2.1 x.2.2.2=ś (sn',l')) (λx=>x.1) [] _ (f0,0,sn,l) rfl (by simp[bX]) ⟨by simp,hsn,hl,by simpa using hll,by simp,hr⟩ ?_
 rintro⟨f,i,s,w⟩ ⟨hf,hs,hw,hwl,hiw,hgo⟩ N hN;simp only at hf hs hw hwl hiw hgo;cases f with
 |zero=>simp[yW]at hgo
 |succ f=>
 simp only[yW]at hgo;rcases zBb i w.length with hlt|hge
 ·obtain⟨q,hq⟩:=av hlt
  have hqn:=hw q (zAc hq);obtain⟨r,hrr⟩:=av (l:=rows) (k:=q) (by rw[hR.len];exact hqn)
  have hrm:=zAc hrr;have hrl:=hR.few r hrm;rw[hq]at hgo;simp only[hrr,Option.getD_some]at hgo;obtain⟨T,hT⟩:∃T,T=gV mark r s w:=⟨_,rfl⟩;have hTl:=Fx (mark:=mark) r s w hs (λe he=>(hR.to r hrm e he).1) hw;rw[<-hT]at hgo hTl;replace hgo:=hid hgo;simp(disch:=omega) [-zAa,bX,hq,hrr,hs]
  refine ah (λ(x:Nat×List Nat×List Nat)=>⟨[(0,bX rows),(1,.ref 0 n),(2,nV mark),(3,.ref 1 x.2.2.length),(9,nV i),(24,.seq 4 (r.map NEdge.v)),(25,nV r.length),(26,nV x.1)],[ś (.arr ap 1 (x.2.1.map nV)),ś (.arr ap 1 (x.2.2.map nV))]⟩)
   (λx=>x.1<=r.length/\x.2.1.length=n/\(∀q∈x.2.2,q<n)/\x.2.2.length<=1000000+1000000*i+x.1/\i<x.2.2.length/\gV mark (r.drop x.1) x.2.1 x.2.2=T) (λx=>r.length-x.1) [] _ (0,s,w) rfl (by simp[bX]) ⟨by simp,hs,hw,by simpa using hwl,hlt,by simp[hT]⟩ ?_
  clear hT;rintro⟨k,s2,w2⟩ ⟨hk,hs2,hw2,hwl2,hi2,hrow⟩ M hM;simp only at hk hs2 hw2 hwl2 hi2 hrow;rcases place r k hk with⟨he,hd⟩|⟨hlt2,e,hre,hd⟩<;>rw[hd]at hrow
  ·simp only[gV]at hrow
   subst hrow;clear hM;simp(disch:=omega) [-zAa,bX,he];exact hN.out _<|Nx.mk (f,i+1,s2,w2) (by simp[bX]) ⟨by simp only;omega,hs2,hw2,by simp only;omega,by simp only;omega,by simpa using hgo.out⟩ (by simp only;omega)
  ·obtain⟨he1,he2,he3⟩:=hR.to r hrm e (zAc hre)
   obtain⟨v,hv⟩:=av (l:=s2) (k:=e.to) (by omega)
   simp only[gV,hv,zBc]at hrow;replace hrow:=hid hrow;simp(disch:=omega) [-zAa,bX,hre];by_cases hfr:e.high<e.low
   ·by_cases hvm:v=mark
    ·have h1:(e.high:Int)<e.low:=by omega
     have hrow:=hrow.out;rw[if_neg (λh=>h.2 hvm)]at hrow;clear hN;simp(disch:=omega) [-zAa,hs2,hv,hfr,h1,hvm];exact hM.out _<|Nx.mk (k+1,s2,w2) (by simp[bX]) ⟨by simp only;omega,hs2,hw2,by simp only;omega,hi2,hrow⟩ (by simp only;omega)
    ·have h1:(e.high:Int)<e.low:=by omega
     have h2:¬(v:Int)=mark:=by omega
     have hrow:=hrow.out;rw[if_pos ⟨by grind[NEdge.free],hvm⟩]at hrow
     clear hN;simp(disch:=omega) [-zAa,hs2,hv,hfr,h1,hvm,h2]
     exact hM.out _<|Nx.mk (k+1,s2.set e.to mark,w2++[e.to]) (by simp[bX,List.map_set]) ⟨by simp only;omega,by simp[hs2],λq hq=>by
      grind,by simp;omega,by simp;omega,hrow⟩ (by simp only;omega)
   ·have h1:¬(e.high:Int)<e.low:=by omega
    have hrow:=hrow.out;rw[if_neg (λh=>by grind[NEdge.free])]at hrow
    clear hN;simp(disch:=omega) [-zAa,hs2,hv,hfr,h1];exact hM.out _<|Nx.mk (k+1,s2,w2) (by simp[bX]) ⟨by simp only;omega,hs2,hw2,by simp only;omega,hi2,hrow⟩ (by simp only;omega)
 simp_all
end Go.Abs
end
section
namespace Go.Abs
open Go.Aut
attribute [-simp] getElem?_pos zAg zAi
structure MInv (n mark:Nat) (sn l:List Nat):Prop where
 len:sn.length=n
 lt:∀q∈l,q<n
 nodup:l.Nodup
 mkd:∀q,q<n->(sn[q]?=ś mark↔q∈l)
theorem MInv.add{n mark sn l}(h:MInv n mark sn l){t}(ht:t<n)(hm:¬sn[t]?=ś mark):MInv n mark (sn.set t mark) (l++[t]):=by
 have hnm:t ∉ l:=λhl=>hm ((h.mkd t ht).2 hl);refine⟨by simp[h.len],λq hq=>?_,?_,λq hq=>?_⟩
 ·rcases zAb.1 hq with hq|hq
  ·exact h.lt q hq
  simp_all
 ·rw[List.nodup_append]
  refine⟨h.nodup,by simp,λa ha b hb=>?_⟩
  grind
 ·rw[zBd]
  by_cases he:t=q
  ·subst he
   simp[h.len,ht]
  ·rw[if_neg he,h.mkd q hq,zAb]
   grind
theorem Fy{n mark}:∀(es:List NEdge)(sn l:List Nat),MInv n mark sn l->(∀e∈es,e.to<n)->
 MInv n mark (gV mark es sn l).1 (gV mark es sn l).2/\(∃t,(gV mark es sn l).2=l++t)/\(∀x∈(gV mark es sn l).2,x∈l\/∃e∈es,e.free=ť/\x=e.to)/\∀e∈es,e.free=ť->e.to∈(gV mark es sn l).2
 |[],sn,l,h,_=>⟨h,⟨[],by simp[gV]⟩,λx hx=>.inl hx,λe he=>by cases he⟩
 |e::es,sn,l,h,he=>by
   simp only[gV];split
   ·rename_i hc
    obtain⟨h1,⟨t,h2⟩,h3,h4⟩:=Fy es _ _ (h.add (he e (by simp)) hc.2) λx hx=>he x (by simp[hx])
    grind
   ·rename_i hc
    obtain⟨h1,h2,h3,h4⟩:=Fy es sn l h λx hx=>he x (by simp[hx])
    refine⟨h1,h2,λx hx=>?_,λx hx hf=>?_⟩
    ·grind
    ·rcases zAd.1 hx with rfl|hx
     ·obtain⟨t,ht⟩:=h2
      rw[ht,zAb];refine .inl ((h.mkd _ (he _ (by simp))).1 ?_)
      simp_all
     ·exact h4 x hx hf
theorem r9 {n mark} {rows} (hto:∀ r∈rows,∀ e∈r,e.to < n) {S:Nat→Prop} (hS:∀ q r,rows[q]?=ś r→S q→∀ e∈r,e.free=ť→S e.to):∀ (f i:Nat) (sn l:List Nat),MInv n mark sn l→(∀ x∈l,S x)→i≤l.length→
 (∀ j < i,∀ q r,l[j]?=ś q→rows[q]?=ś r→∀ e∈r,e.free=ť→e.to∈l)→n < f + i→
 ∃ sn' l',yW rows mark f i sn l=ś (sn',l')∧MInv n mark sn' l'∧(∀ x∈l,x∈l')∧(∀ x∈l',S x)∧∀ q∈l',∀ r,rows[q]?=ś r→∀ e∈r,e.free=ť→e.to∈l'
 | 0,i,sn,l,h,_,hi,_,hf=>by
   have:=cU n l h.nodup h.lt
   omega
 | f + 1,i,sn,l,h,hl,hi,hcl,hf=>by
   simp only [yW]
   rcases zBb i l.length with hlt | hge
   · obtain ⟨q,hq⟩:=av hlt
     rw [hq]
     simp only
     have hro:∀ e∈(rows[q]?).getD [],e.to < n:=λe he=>by
      grind
     obtain ⟨h1,⟨t,h2⟩,h3,h4⟩:=Fy (mark:=mark) _ sn l h hro
     obtain ⟨sn',l',k1,k2,k3,k4,k5⟩:=r9 hto hS f (i + 1) _ _ h1 (λx hx=>by
      grind) (by grind) (λj hj p r hp hr e he hfr=>by
      grind) (by omega)
     grind
   · have:i=l.length:=by omega
     rw [zBa (by omega)]
     refine ⟨sn,l,rfl,h,λx hx=>hx,hl,λq hq r hr e he hfr=>?_⟩
     obtain ⟨j,hj,hjq⟩:=List.getElem_of_mem hq
     exact hcl j (by omega) q r (by grind) hr e he hfr
def oy(mark b:Nat):List NEdge->List Nat->List Nat->List Nat×List Nat
 |[],sn,l=>(sn,l)
 |e::es,sn,l=>if(e.low<=b/\b<=e.high)/\¬sn[e.to]?=ś mark then oy mark b es (sn.set e.to mark) (l++[e.to])else oy mark b es sn l
def rB(rows:List (List NEdge))(mark b:Nat):List Nat->List Nat->List Nat->List Nat×List Nat
 |[],sn,l=>(sn,l)
 |q::now,sn,l=>rB rows mark b now (oy mark b ((rows[q]?).getD []) sn l).1 (oy mark b ((rows[q]?).getD []) sn l).2
theorem x0{n mark b}:∀(es:List NEdge)(sn l:List Nat),MInv n mark sn l->(∀e∈es,e.to<n)->
 MInv n mark (oy mark b es sn l).1 (oy mark b es sn l).2/\∀x,x∈(oy mark b es sn l).2↔x∈l\/∃e∈es,(e.low<=b/\b<=e.high)/\x=e.to
 |[],sn,l,h,_=>⟨h,λx=>by simp[oy]⟩
 |e::es,sn,l,h,he=>by
   simp only[oy];split
   ·rename_i hc
    obtain⟨h1,h2⟩:=x0 (b:=b) es _ _ (h.add (he e (by simp)) hc.2) λx hx=>he x (by simp[hx])
    grind
   ·rename_i hc
    obtain⟨h1,h2⟩:=x0 (b:=b) es sn l h λx hx=>he x (by simp[hx])
    refine⟨h1,λx=>?_⟩;rw[h2];simp only[zAd,exists_eq_or_imp];constructor
    ·grind
    ·rintro(h3|⟨h3,rfl⟩|h3)
     ·exact .inl h3
     ·refine .inl ((h.mkd _ (he _ (by simp))).1 ?_)
      simp_all
     ·exact .inr h3
theorem BW {n mark b} {rows} (hto:∀ r∈rows,∀ e∈r,e.to < n):∀ (now sn l:List Nat),MInv n mark sn l→
 MInv n mark (rB rows mark b now sn l).1 (rB rows mark b now sn l).2∧∀ x,x∈(rB rows mark b now sn l).2↔x∈l∨∃ q∈now,∃ e∈(rows[q]?).getD [],(e.low≤b∧b≤e.high)∧x=e.to
 | [],sn,l,h=>⟨h,λx=>by simp [rB]⟩
 | q::now,sn,l,h=>by
   simp only [rB]
   have hro:∀ e∈(rows[q]?).getD [],e.to < n:=λe he=>by
    grind
   obtain ⟨h1,h2⟩:=x0 (b:=b) _ sn l h hro
   obtain ⟨h3,h4⟩:=BW (b:=b) hto now _ _ h1
   grind
def Low(mark:Nat)(sn:List Nat):Prop:=∀q v:Nat,sn[q]?=ś v->v<=mark
theorem Low.set{mark t sn}(h:Low mark sn):Low mark (sn.set t mark):=λq v hv=>by
 rw[zBd]at hv;split at hv
 ·simp_all
 ·exact h q v hv
theorem Low.row{mark b}:∀(es:List NEdge)(sn l:List Nat),Low mark sn->Low mark (oy mark b es sn l).1
 |[],sn,l,h=>h
 |e::es,sn,l,h=>by
   simp only[oy];split
   ·exact Low.row es _ _ h.set
   ·exact Low.row es _ _ h
theorem Low.go{mark b rows}:∀(now sn l:List Nat),Low mark sn->Low mark (rB rows mark b now sn l).1
 |[],sn,l,h=>h
 |q::now,sn,l,h=>by
   simp only[rB];exact Low.go now _ _ (Low.row _ _ _ h)
theorem Low.clr{mark}:∀(es:List NEdge)(sn l:List Nat),Low mark sn->Low mark (gV mark es sn l).1
 |[],sn,l,h=>h
 |e::es,sn,l,h=>by
   simp only[gV];split
   ·exact Low.clr es _ _ h.set
   ·exact Low.clr es _ _ h
theorem Low.cl{mark rows}:∀(f i:Nat)(sn l sn' l':List Nat),Low mark sn->yW rows mark f i sn l=ś (sn',l')->Low mark sn'
 |0,i,sn,l,sn',l',h,hg=>by simp[yW]at hg
 |f+1,i,sn,l,sn',l',h,hg=>by
   simp only[yW]at hg;split at hg
   ·cases hg;exact h
   ·exact Low.cl f (i+1) _ _ _ _ (Low.clr _ _ _ h) hg
theorem MInv.fresh{n mark sn}(hl:sn.length=n)(h:Low mark sn):MInv n (mark+1) sn []:=
 ⟨hl,λq hq=>(by cases hq),List.nodup_nil,λq hq=>⟨λhm=>(by have:=h q _ hm;omega),λhm=>(by cases hm)⟩⟩
end Go.Abs
end
section
namespace Go.Abs
open Go.Aut
attribute [-simp] getElem?_pos zAg zAi cl nt
def L7(es:List NEdge)(q:Nat):List NEdge:=es.filter λe=>decide (e.fr=q)
def c8(es:List NEdge)(n:Nat):List (List NEdge):=(List.range n).map (L7 es)
theorem ya{es n q}(h:q<n):(c8 es n)[q]?=ś (L7 es q):=by
 grind[c8,List.getElem?_range]
theorem rN{es q e}:e∈L7 es q↔e∈es/\e.fr=q:=by simp[L7]
theorem vF{N:Net}(h:N.ok):∀r∈c8 N.edges N.n,∀e∈r,e.to<N.n:=λr hr e he=>by
 simp only[c8,List.mem_map]at hr;obtain⟨q,_,rfl⟩:=hr;exact(h.ends e (rN.1 he).1).2.1
def Vy(N:Net):Nat->Str->List Nat->List Nat->Bool
 |i,[],sn,_=>decide (sn[N.stop]?=ś (i+1))
 |i,b::s,sn,now=>if now=[]then false else
   match yW (c8 N.edges N.n) (i+2) (N.n+1) 0 (rB (c8 N.edges N.n) (i+2) b.toNat now sn []).1 (rB (c8 N.edges N.n) (i+2) b.toNat now sn []).2 with
   |some (sn',now')=>Vy N (i+1) s sn' now'
   |none=>false
def mtP(N:Net)(s:Str):Bool:=match yW (c8 N.edges N.n) 1 (N.n+1) 0 ((zAe N.n 0).set N.start 1) [N.start]with
 |some (sn,now)=>Vy N 0 s sn now
 |none=>false
structure TInv (N:Net) (i:Nat) (u:List Nat) (sn now:List Nat):Prop where
 m:MInv N.n (i+1) sn now
 low:Low (i+1) sn
 rg:∀q,q∈now↔Rg N.edges [] q u
theorem Va{E n}{l:List Nat}(hlt:∀q∈l,q<n)(hc:∀q∈l,∀r,(c8 E n)[q]?=ś r->∀e∈r,e.free=ť->e.to∈l){p q}(hp:p∈l)(h:NReach E p q):q∈l:=by
 induction h with
 |refl=>exact hp
 |step _ h2 h3 h4 ih=>exact hc _ ih _ (ya (hlt _ ih)) _ (rN.2 ⟨h2,h4⟩) h3
theorem afV{N:Net}{u}:∀q r,(c8 N.edges N.n)[q]?=ś r->Rg N.edges [] q u->∀e∈r,e.free=ť->Rg N.edges [] e.to u:=λq r hr hq e he hf=>by
 have hlt:q<N.n:=by
  grind[List.getElem?_eq_some_iff,c8]
 rw[ya hlt]at hr;cases hr;obtain⟨h1,h2⟩:=rN.1 he;exact .free hq h1 hf h2
theorem TInv.begin{N}(h:N.ok)(hs:N.start=0):∃sn now,yW (c8 N.edges N.n) 1 (N.n+1) 0 ((zAe N.n 0).set N.start 1) [N.start]=ś (sn,now)/\TInv N 0 [] sn now:=by
 have h0:MInv N.n 1 (zAe N.n 0) []:=MInv.fresh (mark:=0) (by simp) λq v hv=>by
  grind
 have hm:¬(zAe N.n 0)[N.start]?=ś 1:=λe=>by
  grind
 have h1:=h0.add h.start hm
 have hlow:Low 1 ((zAe N.n 0).set N.start 1):=Low.set λq v hv=>by
  grind
 obtain⟨sn,now,k1,k2,k3,k4,k5⟩:=r9 (vF h) (S:=λq=>Rg N.edges [] q []) afV (N.n+1) 0 _ [N.start] h1 (λx hx=>by
  simp at hx;subst hx;rw[hs];exact .start) (by simp) (λj hj=>by omega) (by omega)
 refine⟨sn,now,k1,k2,Low.cl _ _ _ _ _ _ hlow k1,λq=>⟨k4 q,λhq=>?_⟩⟩;rcases Rg.inv hq with⟨_,hr⟩|⟨u,c,e,he,_⟩
 ·exact Va k2.lt k5 (k3 N.start (by simp)) (by rw[hs];exact hr)
 ·simp at he
theorem TInv.step {N} (h:N.ok) {i} {u sn now} (hI:TInv N i u sn now) {b:UInt8} (hb:32≤b.toNat∧b.toNat≤126):
 ∃ sn' now',yW (c8 N.edges N.n) (i + 2) (N.n + 1) 0 (rB (c8 N.edges N.n) (i + 2) b.toNat now sn []).1 (rB (c8 N.edges N.n) (i + 2) b.toNat now sn []).2=ś (sn',now')∧TInv N (i + 1) (u++[b.toNat - 32]) sn' now':=by
 have hto:=vF h
 have hf:MInv N.n (i + 2) sn []:=MInv.fresh (mark:=i + 1) hI.m.len hI.low
 obtain ⟨h1,h2⟩:=BW (b:=b.toNat) hto now sn [] hf
 have hlow:Low (i + 2) (rB (c8 N.edges N.n) (i + 2) b.toNat now sn []).1:=Low.go _ _ _ λq v hv=>by have:=hI.low q v hv; omega
 have htk:∀ e:NEdge,tk e (b.toNat - 32)=ť↔e.low≤b.toNat∧b.toNat≤e.high:=λe=>by
  simp_all[tk,decide_eq_true_eq]
 obtain ⟨sn',now',k1,k2,k3,k4,k5⟩:=r9 hto (S:=λq=>Rg N.edges [] q (u++[b.toNat - 32])) afV (N.n + 1) 0 _ _ h1 (λx hx=>by
  rcases (h2 x).1 hx with hx | ⟨q,hq,e,he,ht,rfl⟩
  · cases hx
  · rw [ya (hI.m.lt q hq)] at he
    obtain ⟨g1,g2⟩:=rN.1 he
    exact .take ((hI.rg q).1 hq) g1 ((htk e).2 ht) (by omega) g2) (by omega) (λj hj=>by omega) (by omega)
 refine ⟨sn',now',k1,k2,Low.cl _ _ _ _ _ _ hlow k1,λq=>⟨k4 q,λhq=>?_⟩⟩
 rcases Rg.inv hq with ⟨he,_⟩ | ⟨u',c,e,he,hc,hE,ht,hr,hn⟩
 · simp at he
 · obtain ⟨rfl,he2⟩:=zBf he rfl
   simp at he2
   subst he2
   have hq1:=(hI.rg e.fr).2 hr
   refine Va k2.lt k5 (k3 e.to ((h2 e.to).2 (.inr ⟨e.fr,hq1,e,?_,(htk e).1 ht,rfl⟩))) hn
   rw [ya (hI.m.lt _ hq1)]
   simp_all[rN]
theorem Vx{N}(h:N.ok):∀(s:Str)(i:Nat)(u sn now:List Nat),ep s->TInv N i u sn now->(Vy N i s sn now=ť↔Rg N.edges [] N.stop (u++sw s))
 |[],i,u,sn,now,_,hI=>by
   simp only[Vy,decide_eq_true_eq,sw,List.map_nil,zBg];rw[hI.m.mkd _ h.stop,hI.rg]
 |b::s,i,u,sn,now,hs,hI=>by
   have hb:=hs b (by simp)
   obtain⟨sn',now',k1,k2⟩:=hI.step h hb;have ih:=Vx h s (i+1) _ _ _ (λc hc=>hs c (by simp[hc])) k2
   simp only[Vy];have e:u++sw (b::s)=u++[b.toNat-32]++sw s:=by simp[sw]
   rw[e,<-ih];split
   ·rename_i hn
    subst hn;simp only[Bool.false_eq_true,false_iff];rw[ih];intro hr

    have key:∀(v:List Nat)(q:Nat),Rg N.edges [] q (u++v)->∃p,Rg N.edges [] p u:=by
     intro v
     induction hv:v.length generalizing v with
     |zero=>grind
     |succ m ihm=>
       intro q hq;rcases List.eq_nil_or_concat v with rfl|⟨l,x,rfl⟩
       ·simp at hv
       ·rcases Rg.inv hq with⟨he,_⟩|⟨u',c,e,he,_,_,_,hr,_⟩
        ·simp at he
        ·have:u++(l.concat x)=(u++l)++[x]:=by simp
         rw[this]at he;obtain⟨rfl,_⟩:=zBf he rfl;grind
    rw[List.append_assoc]at hr;obtain⟨p,hp⟩:=key _ _ hr;have:=(hI.rg p).2 hp;cases this
   ·rw[k1]
theorem ais{N}(h:N.ok)(hs:N.start=0){s}(hsg:ep s):mtP N s=ť↔Rg N.edges [] N.stop (sw s):=by
 obtain⟨sn,now,k1,k2⟩:=TInv.begin h hs;rw[mtP,k1];simpa using Vx h s 0 [] sn now hsg k2
end Go.Abs
end
section
set_option maxHeartbeats 1000000
set_option maxRecDepth 100000
namespace Go.Abs
open Go.Proofs Go.Aut
attribute [-simp] getElem?_pos zAg zAi
def agO:Prop:=∀(x:Rx)(N:Net)(v:Str),N.ok->N.edges.length<=1000000->0<N.edges.length->Fn Tryz.prog dE [rxP x] (.strct (Net.c N))->v.length<=1000->Fn Tryz.prog gg [rxP x,.str v] (.bool (mtP N v))
theorem ac7{s x}(h:(s,x)∈er)(v:Str)(R)(hM:v.all F.sign=ť->Fn Tryz.prog gg [rxP x,.str v] (.bool R))(hs:v.all F.sign=false->R=false):Fn Tryz.prog dr [(F.Constraint.mk 4 [] s).v,.str v] (.bool R):=by
 refine yoA zn ?_;simp(disch:=omega) [-zAa];refine aa (F.f_lang_isValue _) rfl λ_=>?_;cases hv:v.all F.sign with
 |false=>
   simp_all
 |true=>
   have hm:=hM hv;simp(disch:=omega) [-zAa];refine ae (TZ h) (by simp) λ_=>?_
   simp(disch:=omega) [-zAa];refine aa hm rfl λ_=>?_;simp
theorem Yj:er.all (λp=>match PO p.2 with
 |some N=>decide (0<N.edges.length)
 |none=>false)=true:=by decide+kernel
theorem Yi{s x}(h:(s,x)∈er):wfR x=ť/\cC x<=2000/\fresh x<=100:=by
 simp only[er,zAd,zBh,zAj,or_false]at h;rcases h with⟨_,rfl⟩|⟨_,rfl⟩|⟨_,rfl⟩|⟨_,rfl⟩|⟨_,rfl⟩|⟨_,rfl⟩|⟨_,rfl⟩|⟨_,rfl⟩|⟨_,rfl⟩
 all_goals decide
theorem aac(hM:agO):abq:=λs x v h hp hv=>by
 obtain⟨h1,h2,h3⟩:=Yi h;obtain⟨N,hN,hs⟩:=AM h1 (vz _) (vz _) (sL x _);have hok:=Yu hs (by omega)
 have hne:0<N.edges.length:=by
  have:=List.all_eq_true.1 Yj _ h;simp_all
 have hlen:=hs.len;have hnet:=ajv x N h1 hN h2 (by omega)
 have hm:=hM x N v hok (by omega) hne hnet hv
 have hg:GoodC ⟨4,[],s⟩ x:=.mat h hp
 have key:ep v->(mtP N v=ť↔F.allows12 ⟨4,[],s⟩ v=ť):=λhsg=>by
  rw[ais hok hs.start hsg,hs.stop,hs.lang,tS hg];simp_all
 refine ac7 h v _ (λhsv=>?_) λhsv=>?_
 ·have e:mtP N v=F.allows12 ⟨4,[],s⟩ v:=D0 (key (Xu.1 hsv))
  rw[<-e];exact hm
 grind[F.allows12]
end Go.Abs
end
