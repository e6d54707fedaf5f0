/- Nets, plainly: what is reached by edges that take no sign, as a list that grows. No condition. -/
import Derived.Test.YtbekkicfbnaaaaaGreatDoorVTh1
set_option linter.all false open List renaming reduceReplicate→zAa,mem_of_getElem?→zAb,replicate→zAc,getElem?_eq_some_iff→zAd,getElem?_set_ne→zAf,getElem?_eq_none_iff→zAg,getElem?_set_self→zAh,mem_append_left→zAi,getElem?_append_left→zAj,drop_eq_getElem_cons→zBa,getElem?_eq_getElem→zBb,foldl_cons→zBc,mem_append→zBd,mem_iff_getElem?→zBe,getElem?_eq_none→zBf,mem_cons→zBg,foldl_nil→zBh,map_cons→zBi,map_nil→zBj
open Nat renaming lt_or_ge→zAe open Option renaming some→ś open Bool renaming true→ť open Go.Proofs.Tryz renaming prog→ŷ
section
namespace Go.Aut
structure NEdge where
 fr:Nat
 to:Nat
 low:Nat
 high:Nat
structure Net where
 n:Nat
 start:Nat
 stop:Nat
 edges:List NEdge
def NEdge.free(e:NEdge):Bool:=decide (e.high<e.low)
structure Net.ok (N:Net):Prop where
 pos:0<N.n
 le:N.n<=500
 start:N.start<N.n
 stop:N.stop<N.n
 ends:∀e∈N.edges,e.fr<N.n/\e.to<N.n/\e.low<256/\e.high<256
def dI(es:List NEdge)(s:Nat):Nat->List Nat
 |0=>[]
 |k+1=>match es[k]? with
   |some e=>if e.free=ť/\e.fr=s then k::dI es s k else dI es s k
   |none=>dI es s k
def toE(es:List NEdge)(i:Nat):Nat:=match es[i]? with
 |some e=>e.to
 |none=>0
def G8(es:List NEdge)(s:Nat):List Nat:=(dI es s es.length).map (toE es)
def co(st:List Bool×List Nat)(q:Nat):List Bool×List Nat:=if(st.1[q]?).getD ť=ť then st else(st.1.set q ť,st.2++[q])
def ig(es:List NEdge):Nat->Nat->List Bool×List Nat->List Bool×List Nat
 |0,_,st=>st
 |f+1,i,st=>match st.2[i]? with
   |none=>st
   |some s=>ig es f (i+1) ((G8 es s).foldl co st)
def nO(es:List NEdge)(n q:Nat):List Bool:=(ig es (n+1) 0 ((zAc n false).set q ť,[q])).1
def fK:Nat->List Bool->List Nat
 |_,[]=>[]
 |q,b::l=>if b=ť then q::fK (q+1) l else fK (q+1) l
def j7(es:List NEdge)(n q:Nat):List Nat:=fK 0 (nO es n q)
inductive NReach (es:List NEdge) (q:Nat):Nat->Prop
 |refl:NReach es q q
 |step {p:Nat} {e:NEdge}:NReach es q p->e∈es->e.free=ť->e.fr=p->NReach es q e.to
theorem rO{es s i}:∀{k:Nat},i∈dI es s k↔i<k/\∃e,es[i]?=ś e/\e.free=ť/\e.fr=s
 |0=>by simp[dI]
 |k+1=>by
   have ih:=@rO es s i k;simp only[dI];grind
theorem VB{es s t}:t∈G8 es s↔∃e∈es,e.free=ť/\e.fr=s/\e.to=t:=by
 simp only[G8,List.mem_map,rO];constructor
 ·rintro⟨i,⟨h1,e,h2,h3,h4⟩,rfl⟩
  grind[zAb,toE]
 ·rintro⟨e,he,h3,h4,rfl⟩
  grind[zBe,zAd,toE]
structure GInv (es:List NEdge) (n q:Nat) (i:Nat) (st:List Bool×List Nat):Prop where
 len:st.1.length=n
 nodup:st.2.Nodup
 mem:∀p,st.1[p]?=ś ť↔p∈st.2
 lt:∀p∈st.2,p<n
 reach:∀p∈st.2,NReach es q p
 start:q∈st.2
 le:i<=st.2.length
 done:∀j<i,∀s,st.2[j]?=ś s->∀t∈G8 es s,t∈st.2
theorem sB{es}{n q s:Nat}:∀(ts:List Nat)(st:List Bool×List Nat),st.1.length=n->st.2.Nodup->(∀p,st.1[p]?=ś ť↔p∈st.2)->(∀p∈st.2,p<n)->(∀p∈st.2,NReach es q p)->(∀t∈ts,t<n/\NReach es q t)->
 (ts.foldl co st).1.length=n/\(ts.foldl co st).2.Nodup/\(∀p,(ts.foldl co st).1[p]?=ś ť↔p∈(ts.foldl co st).2)/\(∀p∈(ts.foldl co st).2,p<n)/\(∀p∈(ts.foldl co st).2,NReach es q p)/\(∃u,(ts.foldl co st).2=st.2++u)/\∀t∈ts,t∈(ts.foldl co st).2
 |[],st,h1,h2,h3,h4,h5,_=>⟨h1,h2,h3,h4,h5,⟨[],by simp⟩,by simp⟩
 |t::ts,st,h1,h2,h3,h4,h5,h6=>by
   obtain⟨ht,hr⟩:=h6 t (by simp)
   obtain⟨b,hb⟩:∃b,st.1[t]?=ś b:=⟨_,zBb (by omega)⟩
   simp only[zBc];cases b with
   |true=>
     have e:co st t=st:=by simp[co,hb]
     rw[e];obtain⟨g1,g2,g3,g4,g5,⟨u,g6⟩,g7⟩:=sB (s:=s) ts st h1 h2 h3 h4 h5 λt ht=>h6 t (by simp[ht])
     grind
   |false=>
     have e:co st t=(st.1.set t ť,st.2++[t]):=by simp[co,hb]
     have hnm:t ∉ st.2:=λh=>by grind
     rw[e]
     obtain⟨g1,g2,g3,g4,g5,⟨u,g6⟩,g7⟩:=sB (s:=s) ts (st.1.set t ť,st.2++[t]) (by simpa using h1)
      (by grind)
      (λp=>by
        grind)
      (λp hp=>(zBd.1 hp).elim (h4 p) λhp=>by simp_all)
      (λp hp=>(zBd.1 hp).elim (h5 p) λhp=>by simp_all)
      λt ht=>h6 t (by simp[ht])
     simp_all
theorem GInv.next{es n q i st}(hes:∀e∈es,e.to<n)(h:GInv es n q i st){s}(hs:st.2[i]?=ś s):GInv es n q (i+1) ((G8 es s).foldl co st):=by
 have hi:=(zAd.1 hs).1
 obtain⟨g1,g2,g3,g4,g5,⟨u,g6⟩,g7⟩:=sB (es:=es) (q:=q) (s:=s) (G8 es s) st h.len h.nodup h.mem h.lt h.reach λt ht=>by
  obtain⟨e,he,h1,h2,rfl⟩:=VB.1 ht;exact⟨hes e he,.step (h.reach s (zAb hs)) he h1 h2⟩
 refine⟨g1,g2,g3,g4,g5,by rw[g6];exact zAi _ h.start,by rw[g6];simp;omega,λj hj s' hs' t ht=>?_⟩
 rw[g6]at hs';rcases zAe j i with hji|hji
 ·rw[zAj (by omega)]at hs'
  rw[g6];exact zAi _ (h.done j hji s' hs' t ht)
 grind
theorem Bh{es n q}(hes:∀e∈es,e.to<n):∀(f i:Nat)(st:List Bool×List Nat),GInv es n q i st->n<f+i->GInv es n q (ig es f i st).2.length (ig es f i st)
 |0,i,st,h,hf=>by
   have:=cU n st.2 h.nodup h.lt;have:=h.le;omega
 |f+1,i,st,h,hf=>by
   simp only[ig];cases hs:st.2[i]? with
   |none=>
     have:i=st.2.length:=by have:=zAg.1 hs;have:=h.le;omega
     simp only;rw[<-this];exact h
   |some s=>exact Bh hes f (i+1) _ (h.next hes hs) (by omega)
theorem KS{es n q}(hq:q<n):GInv es n q 0 ((zAc n false).set q ť,[q]):=by
 refine⟨by simp,by simp,λp=>?_,by simpa using hq,λp hp=>by simp at hp;subst hp;exact .refl,by simp,by simp,λj hj=>by omega⟩
 grind
theorem nN{es n q}(hes:∀e∈es,e.to<n)(hq:q<n):(nO es n q).length=n/\∀p,(nO es n q)[p]?=ś ť↔NReach es q p:=by
 have h:=Bh hes (n+1) 0 _ (KS hq) (by omega)
 refine⟨h.len,λp=>?_⟩;rw[nO,h.mem];refine⟨h.reach p,λhr=>?_⟩
 induction hr with
 |refl=>exact h.start
 |step hr he h1 h2 ih=>
   obtain⟨j,hj⟩:=zBe.1 ih;exact h.done j (zAd.1 hj).1 _ hj _ (VB.2 ⟨_,he,h1,h2,rfl⟩)
theorem Gf:∀(l:List Bool)(q p:Nat),p∈fK q l↔q<=p/\l[p-q]?=ś ť
 |[],q,p=>by simp[fK]
 |b::l,q,p=>by
   have ih:=Gf l (q+1) p;simp only[fK];by_cases hpq:p=q
   ·subst hpq
    cases b<;>simp[ih];omega
   ·rcases zAe p q with h|h
    ·have h1:¬q+1<=p:=by omega
     cases b<;>simp[ih,hpq,h1]<;>omega
    ·have e:p-q=(p-(q+1))+1:=by omega
     rw[e];have h1:q+1<=p:=by omega
     cases b<;>simp[ih,hpq,h,h1]
theorem Gg{es n q p}(hes:∀e∈es,e.to<n)(hq:q<n):p∈j7 es n q↔NReach es q p:=by
 grind[j7,Gf,nN]
theorem NReach.lt{es n q p}(hes:∀e∈es,e.to<n)(hq:q<n)(h:NReach es q p):p<n:=by
 cases h with
 |refl=>exact hq
 |step _ he _ _=>exact hes _ he
end Go.Aut
end
section
set_option maxHeartbeats 1000000
set_option maxRecDepth 100000
namespace Go.Abs
open Go.Proofs Go.Aut
attribute [-simp] getElem?_pos Option.not_isSome List.map_map
theorem aja{Φ Q σ l ks a b ι}(st)(inv)(μ:ι->Nat)
 (h0:∀N:St->Prop,ajl (∀i τ,inv i->τ.nrm ks=st i->N τ)->W Φ a (Ex.jump l N Q) σ)
 (round:∀i,inv i->∀N:St->Prop,ajl (∀τ,Nx st inv μ ks (μ i) τ->N τ)->W Φ b (Ex.jump l N Q) (st i)):W Φ (.scope l ks a b) Q σ:=by
 refine⟨λn τ=>∃i,inv i/\μ i=n/\τ=st i,h0 _ λi τ hi hτ=>⟨μ i,[],τ,rfl,i,hi,rfl,hτ⟩,?_⟩;rintro n τ ⟨i,hi,rfl,rfl⟩;refine round i hi _ ?_;rintro τ ⟨ms,τ',j,h1,h2,h3,h4⟩;grind
theorem cd{Φ σ ks a b Q}(S)(h:∀Q:Ex->St->Prop,Q .norm S->QU Φ a b (aiq Q ks) σ)(k:Q .norm S):QU Φ a b (aiq Q ks) σ:=h Q k
def u8V(n:Nat):V:=.int .u8 n
attribute [simp] u8V
def NEdge.c(e:NEdge):List V:=[nV e.fr,nV e.to,u8V e.low,u8V e.high]
@[simp] def NEdge.v (e:NEdge):V:=.strct [nV e.fr,nV e.to,u8V e.low,u8V e.high]
def rb(es:List NEdge):V:=.seq 4 (es.map NEdge.v)
def Net.c(N:Net):List V:=[nV N.n,nV N.start,nV N.stop,rb N.edges]
attribute [simp] Net.c rb
theorem zE(N)(q):Fn ŷ zi [.strct (Net.c N),nV q] (.bool (decide (q<N.n))):=by
 refine yoA Nu ?_;simp
theorem Zw(e):Fn ŷ kR [NEdge.v e] (.bool e.free):=by
 refine yoA YQ ?_;simp_all[zAa,NEdge.free]
theorem Qu{N}(h:N.ok)(hl:N.edges.length<=1000000):Fn ŷ acb [.strct (Net.c N)] (.int .i64 0):=by
 refine yoA acF ?_;have h1:=h.pos;have h2:=h.le;have h3:=h.start;have h4:=h.stop;have st:=λq (hq:q<N.n)=>(by grind[zE,decide_eq_true]:Fn ŷ zi [.strct (Net.c N),nV q] (.bool ť))
 have hs:=st N.start h3;have hp:=st N.stop h4;simp at hs hp;simp(disch:=omega) [-zAa];refine aa hs rfl λ_=>?_;simp(disch:=omega) [-zAa];refine aa hp rfl λ_=>?_;simp(disch:=omega) [-zAa];refine ah (λk:Nat=>⟨[(1,.ptr 0 0),(28,rb N.edges),(29,.int .i64 N.edges.length),(30,nV k)],[ś (.box (Net.c N))]⟩) (λk=>k<=N.edges.length) (λk=>N.edges.length-k) [] _ 0 rfl (by simp) (by simp) ?_
 intro k hk M hM;rcases place N.edges k hk with⟨he,hd⟩|⟨hlt,e,hx,hd⟩
 ·simp_all
 ·obtain⟨g1,g2,g3,g4⟩:=h.ends e (zAb hx)
  have hf:=st e.fr g1;have ht:=st e.to g2;simp at hf ht;simp(disch:=omega) [-zAa,hx];refine aa hf rfl λ_=>?_;simp(disch:=omega) [-zAa];refine aa ht rfl λ_=>?_;simp(disch:=omega) [-zAa];exact hM.out _<|Nx.mk (k+1) (by simp) (by omega) (by omega)
def gP:List NEdge->Nat->List Nat->List Nat->List Nat×List Nat
 |[],_,hd,lk=>(hd,lk)
 |e::es,i,hd,lk=>if e.free=ť then gP es (i+1) (hd.set e.fr (i+1)) (lk.set i ((hd[e.fr]?).getD 0))else gP es (i+1) hd lk
def gr(es:List NEdge)(n:Nat):List Nat×List Nat:=gP es 0 (zAc n 0) (zAc es.length 0)
def G5(lk:List Nat):Nat->List Nat->Prop
 |a,[]=>a=0
 |a,j::l=>a=j+1/\∃b,lk[j]?=ś b/\G5 lk b l
theorem G5.set{lk i v}:∀{l:List Nat}{a:Nat},(∀j∈l,j≠i)->G5 lk a l->G5 (lk.set i v) a l
 |[],_,_,h=>h
 |j::l,a,hj,⟨h1,b,h2,h3⟩=>⟨h1,b,by grind,G5.set (λj' hj'=>hj j' (by simp[hj'])) h3⟩
theorem Jf{es s k e}(he:es[k]?=ś e):dI es s (k+1)=if e.free=ť/\e.fr=s then k::dI es s k else dI es s k:=by simp only[dI,he]
theorem qi:∀(es:List NEdge)(i:Nat)(hd lk:List Nat),(gP es i hd lk).1.length=hd.length/\(gP es i hd lk).2.length=lk.length
 |[],_,_,_=>⟨rfl,rfl⟩
 |e::es,i,hd,lk=>by
   simp only[gP];split
   ·have:=qi es (i+1) (hd.set e.fr (i+1)) (lk.set i ((hd[e.fr]?).getD 0));simpa using this
   ·exact qi es (i+1) hd lk
theorem qS {all} {n} (hall:∀ e∈all,e.fr < n):∀ (es:List NEdge) (i:Nat) (hd lk:List Nat),all.drop i=es→hd.length=n→lk.length=all.length→
 (∀ s < n,∃ a,hd[s]?=ś a∧G5 lk a (dI all s i))→∀ s < n,∃ a,(gP es i hd lk).1[s]?=ś a∧G5 (gP es i hd lk).2 a (dI all s all.length)
 | [],i,hd,lk,hdr,h1,h2,h,s,hs=>by
   have hi:all.length≤i:=by simp_all
   simp only [gP]
   obtain ⟨a,ha,hc⟩:=h s hs
   refine ⟨a,ha,?_⟩
   have key:∀ k,all.length≤k→dI all s k=dI all s all.length:=by
    intro k hk
    induction k with
    | zero=>simp_all
    | succ k ih=>
      grind[zAe,dI,zBf]
   simp_all
 | e::es,i,hd,lk,hdr,h1,h2,h,s,hs=>by
   have hi:i < all.length:=by
    grind[zAe,List.drop_of_length_le]
   have he:all[i]?=ś e:=by
    grind[zBa,zBb]
   have hdr':all.drop (i + 1)=es:=by
    grind[zBa]
   have hef:=hall e (zAb he)
   simp only [gP]
   split
   · rename_i hf
     refine qS hall es (i + 1) _ _ hdr' (by simpa using h1) (by simpa using h2) (λs' hs'=>?_) s hs
     obtain ⟨a,ha,hc⟩:=h s' hs'
     have hne:∀ j∈dI all s' i,j≠i:=λj hj=>by grind[rO]
     rw [Jf he]
     by_cases hse:e.fr=s'
     · subst hse
       rw [if_pos ⟨hf,rfl⟩]
       refine ⟨i + 1,by rw [zAh (by omega)],rfl,a,?_,hc.set hne⟩
       simp_all
     · rw [if_neg (λh=>hse h.2)]
       exact ⟨a,by simp_all,hc.set hne⟩
   · rename_i hf
     refine qS hall es (i + 1) hd lk hdr' h1 h2 (λs' hs'=>?_) s hs
     simp_all[Jf,if_neg]
theorem CZ{es n}(h:∀e∈es,e.fr<n){s}(hs:s<n):∃a,(gr es n).1[s]?=ś a/\G5 (gr es n).2 a (dI es s es.length):=
 qS h es 0 _ _ (by simp) (by simp) (by simp) (λs hs=>⟨0,by simp[hs],rfl⟩) s hs
def wP(es:List NEdge)(g:List Nat×List Nat):List V:=[rb es,di g.1,di g.2]
attribute [simp] wP
theorem OU{N}(h:N.ok)(hl:N.edges.length<=1000000):Fn ŷ MH [.strct (Net.c N),.fn (.func kR) [] []] (.strct (wP N.edges (gr N.edges N.n))):=by
 refine yoA Nv ?_;unfold Ai;have h2:=h.le;obtain⟨R,hR⟩:∃R,R=gr N.edges N.n:=⟨_,rfl⟩;have hfr:∀e∈N.edges,e.fr<N.n:=λe he=>(h.ends e he).1;simp(disch:=omega) [-zAa];refine cd ⟨[(1,.fn (.func kR) [] []),(2,.ptr 0 0),(4,.ptr 1 0),(5,.ptr 2 0)],[ś (.box (Net.c N)),ś (.box [.nil 4,.nil 1,.nil 1]),ś (.box [rb N.edges,.ref 3 N.n,.ref 4 N.edges.length]),ś (.arr ap 1 (zAc N.n (nV 0))),ś (.arr ap 1 (zAc N.edges.length (nV 0)))]⟩ (λF hF=>?_) ?_
 ·simp at hF
  refine QU.mk ?_ ?_
  all_goals simp(disch:=omega) [-zAa]
  all_goals try refine QU.mk ?_ ?_
  all_goals simp(disch:=omega) [-zAa]
  all_goals try refine QU.mk ?_ ?_
  all_goals try simp(disch:=omega) [-zAa]
  all_goals exact hF
 simp(disch:=omega) [-zAa]
 refine ah (λ(x:Nat×List Nat×List Nat)=>⟨[(1,.fn (.func kR) [] []),(4,.ptr 0 0),(5,.ptr 1 0),(19,rb N.edges),(20,.int .i64 N.edges.length),(21,nV x.1)],[ś (.box [.nil 4,.nil 1,.nil 1]),ś (.box [rb N.edges,.ref 2 N.n,.ref 3 N.edges.length]),ś (.arr ap 1 (x.2.1.map nV)),ś (.arr ap 1 (x.2.2.map nV))]⟩)
  (λx=>x.1<=N.edges.length/\x.2.1.length=N.n/\x.2.2.length=N.edges.length/\gP (N.edges.drop x.1) x.1 x.2.1 x.2.2=R) (λx=>N.edges.length-x.1) [] _ (0,zAc N.n 0,zAc N.edges.length 0) rfl (by simp[-zAa]) ⟨by simp,by simp,by simp,by simp[hR,gr]⟩ ?_
 rintro⟨k,hd,lk⟩ ⟨hk,hhl,hll,hi⟩ M hM;simp only at hk hhl hll hi;rcases place N.edges k hk with⟨he,hdr⟩|⟨hlt,e,hx,hdr⟩<;>rw[hdr]at hi
 ·simp only[gP]at hi
  subst hi;simp(disch:=omega) [-zAa,he,hhl,hll];simp[<-hR]
 ·have hef:=hfr e (zAb hx)
  obtain⟨b,hb⟩:=av (l:=hd) (k:=e.fr) (by omega)
  obtain⟨c,hc⟩:=av (l:=lk) (k:=k) (by omega)
  simp only[gP,hb,Option.getD_some]at hi;have hno:=Zw e;simp at hno;replace hi:=hid hi;simp(disch:=omega) [-zAa,hx];refine aa hno rfl λ_=>?_;cases hf:e.free
  ·simp(disch:=omega) [-zAa]
   have hi:=hi.out;rw[if_neg (by simp[hf])]at hi
   exact hM.out _<|Nx.mk (k+1,hd,lk) (by simp) ⟨by simp only;omega,hhl,hll,hi⟩ (by simp only;omega)
  ·simp(disch:=omega) [-zAa,hhl,hll,hb,hc]
   have hi:=hi.out;rw[if_pos hf]at hi;exact hM.out _<|Nx.mk (k+1,hd.set e.fr (k+1),lk.set k b) (by simp) ⟨by simp only;omega,by simp[hhl],by simp[hll],hi⟩ (by simp only;omega)
theorem T0(l)(hl:l.length<=1000000):FnN ŷ RM [.seq 1 (l.map .bool)] (di (fK 0 l)):=by
 refine FnN.of_image mixed SH.1 SH.2 rfl λho=>?_;clear ho;obtain⟨R,hR⟩:∃R,R=fK 0 l:=⟨_,rfl⟩;rw[<-hR];simp(disch:=omega) [-zAa]
 refine ah (λ(x:Nat×List Nat)=>⟨[(3,.ref 0 x.2.length),(6,.seq 1 (l.map .bool)),(7,.int .i64 l.length),(8,nV x.1)],[ś (.arr ap 1 (x.2.map nV))]⟩)
  (λx=>x.1<=l.length/\x.2.length<=x.1/\x.2++fK x.1 (l.drop x.1)=R) (λx=>l.length-x.1) [.r 3 ap 1] _ (0,[]) rfl (by simp) ⟨by simp,by simp,by simp[hR]⟩ ?_
 rintro⟨k,out⟩ ⟨hk,hol,hi⟩ N hN;simp only at hk hol hi;rcases place l k hk with⟨he,hd⟩|⟨hlt,b,hx,hd⟩<;>rw[hd]at hi
 ·simp_all[fK,List.append_nil,zAa,n7]
 ·simp only[fK]at hi
  replace hi:=hid hi;simp(disch:=omega) [-zAa,hx];refine BrK.mk (λh=>?_) (λh=>?_)
  ·subst h
   simp(disch:=omega) [-zAa];exact hN.out _<|Nx.mk (k+1,out++[k]) (by simp) ⟨by simp only;omega,by simp;omega,by simpa using hi.out⟩ (by simp only;omega)
  ·subst h
   simp(disch:=omega) [-zAa];exact hN.out _<|Nx.mk (k+1,out) (by simp) ⟨by simp only;omega,by simp only;omega,by simpa using hi.out⟩ (by simp only;omega)
structure VInv (es:List NEdge) (n q:Nat) (st:List Bool×List Nat):Prop where
 len:st.1.length=n
 nodup:st.2.Nodup
 mem:∀p,st.1[p]?=ś ť↔p∈st.2
 lt:∀p∈st.2,p<n
 reach:∀p∈st.2,NReach es q p
theorem VInv.visit{es n q st}(h:VInv es n q st){t}(ht:t<n)(hr:NReach es q t):VInv es n q (co st t):=by
 obtain⟨g1,g2,g3,g4,g5,_,_⟩:=sB (es:=es) (q:=q) (s:=0) [t] st h.len h.nodup h.mem h.lt h.reach (by simp_all)
 exact⟨g1,g2,g3,g4,g5⟩
theorem Zx{N:Net}(h:N.ok)(hl:N.edges.length<=1000000)(q)(st0)(hG0:GInv N.edges N.n q 0 st0):
 FnH ŷ Ez [1] [.strct (wP N.edges (gr N.edges N.n)),.ref 0 N.n,.ref 1 st0.2.length] [ś (.arr aH 1 (st0.1.map V.bool)),ś (.arr ap 1 (st0.2.map nV))]
  (.ref 1 (ig N.edges (N.n+1) 0 st0).2.length) [ś (.arr aH 1 ((ig N.edges (N.n+1) 0 st0).1.map V.bool)),ś (.arr ap 1 ((ig N.edges (N.n+1) 0 st0).2.map nV))]:=by
 refine yoH EK ?_;have h2:=h.le;have hfr:∀e∈N.edges,e.fr<N.n:=λe he=>(h.ends e he).1;have hto:∀e∈N.edges,e.to<N.n:=λe he=>(h.ends e he).2.1;have hgl1:(gr N.edges N.n).1.length=N.n:=by grind[gr,qi,zAc]
 have hgl2:(gr N.edges N.n).2.length=N.edges.length:=by grind[gr,qi,zAc]
 obtain⟨R,hR⟩:∃R,R=ig N.edges (N.n+1) 0 st0:=⟨_,rfl⟩;rw[<-hR];have hRG:GInv N.edges N.n q R.2.length R:=by grind[Bh]
 have hRl:R.1.length=N.n:=hRG.len;simp(disch:=omega) [-zAa]
 refine aja (λ(x:Nat×Nat×List Bool×List Nat)=>⟨[(1,.ref 0 N.n),(2,.ref 1 x.2.2.2.length),(3,.ptr 2 0),(7,nV x.2.1)],[ś (.arr aH 1 (x.2.2.1.map V.bool)),ś (.arr ap 1 (x.2.2.2.map nV)),ś (.box (wP N.edges (gr N.edges N.n)))]⟩)
  (λx=>GInv N.edges N.n q x.2.1 x.2.2/\ig N.edges x.1 x.2.1 x.2.2=R/\N.n<x.1+x.2.1) (λx=>x.1) ?_ ?_
 ·intro M hM
  have hG:=hG0;have hlen:=hG0.len
  have hrch:∀s,st0.2[0]?=ś s->∀j∈dI N.edges s N.edges.length,j<N.edges.length/\NReach N.edges q (toE N.edges j):=λs hs j hj=>by
   obtain⟨h1,e,h2,h3,h4⟩:=rO.1 hj;refine⟨h1,?_⟩;simp only[toE,h2];exact .step (hG0.reach s (zAb hs)) (zAb h2) h3 h4
  have dn:st0.2[0]?=none->st0=R:=λh=>by rw[hR];simp[ig,h]
  have nx:∀s,st0.2[0]?=ś s->∀st':List Bool×List Nat,st'=(G8 N.edges s).foldl co st0->∀τ:St,τ.nrm [1,2,3,7]=⟨[(1,.ref 0 N.n),(2,.ref 1 st'.2.length),(3,.ptr 2 0),(7,.int .i64 1)],[ś (.arr aH 1 (st'.1.map V.bool)),ś (.arr ap 1 (st'.2.map nV)),ś (.box (wP N.edges (gr N.edges N.n)))]⟩->M τ:=by
   intro s hs st' he τ hτ;subst he;refine hM.out (N.n,1,_) τ ⟨hG0.next hto hs,by rw[hR];simp[ig,hs],by simp only;omega⟩ (by simpa using hτ)
  simp(disch:=omega) [-zAa];cases hs:st0.2[0]? with
  |none=>
    have hge:=zAg.1 hs;have hdn:=dn hs;simp(disch:=omega) [-zAa,hs]<;>simp[hdn]
  |some s=>
    have hil:=(zAd.1 hs).1;have hsn:=hG.lt s (zAb hs);obtain⟨a,ha,hch⟩:=CZ hfr hsn;have hnx:=nx s hs;simp(disch:=omega) [-zAa,hs,ha,hlen,hgl1,hgl2]
    refine ah (λ(x:Nat×List Nat×List Bool×List Nat)=>⟨[(1,.ref 0 N.n),(2,.ref 1 x.2.2.2.length),(3,.ptr 2 0),(7,.int .i64 0),(8,nV x.1)],[ś (.arr aH 1 (x.2.2.1.map V.bool)),ś (.arr ap 1 (x.2.2.2.map nV)),ś (.box (wP N.edges (gr N.edges N.n)))]⟩)
     (λx=>G5 (gr N.edges N.n).2 x.1 x.2.1/\VInv N.edges N.n q x.2.2/\(∀j∈x.2.1,j<N.edges.length/\NReach N.edges q (toE N.edges j))/\(x.2.1.map (toE N.edges)).foldl co x.2.2=(G8 N.edges s).foldl co st0) (λx=>x.2.1.length) [] _ (a,dI N.edges s N.edges.length,st0) rfl (by simp[]) ⟨hch,⟨hG.len,hG.nodup,hG.mem,hG.lt,hG.reach⟩,hrch s hs,rfl⟩ ?_
    rintro⟨at',l,st'⟩ ⟨hc,hv,hj,hfold⟩ M hM;simp only at hc hv hj hfold;cases l with
    |nil=>
      have:at'=0:=hc;subst this;simp only[zBj,zBh]at hfold;simp(disch:=omega) [-zAa];exact hnx st' hfold _ (by simp[])
    |cons j l=>
      obtain⟨rfl,b,hb,hc'⟩:=hc;obtain⟨hjl,hjr⟩:=hj j (by simp)
      obtain⟨e,he⟩:=av hjl;have hte:toE N.edges j=e.to:=by simp[toE,he]
      have het:=(h.ends e (zAb he)).2.1;obtain⟨ib,hib⟩:=av (l:=st'.1) (k:=e.to) (by rw[hv.len];exact het)
      simp only[zBi,zBc,hte]at hfold;rw[hte]at hjr;have hv2:=hv.visit het hjr;have hsl:=cU N.n st'.2 hv.nodup hv.lt;have hvl:=hv.len;simp(disch:=omega) [-zAa,he,hib,hvl,hb];cases ib with
      |true=>
        have hv1:co st' e.to=st':=by simp[co,hib]
        rw[hv1]at hfold;simp(disch:=omega) [-zAa,hb,hgl2];exact hM.out _<|Nx.mk (b,l,st') (by simp) ⟨hc',hv,λj hj'=>hj j (by simp[hj']),hfold⟩ (by simp)
      |false=>
        have hv1:co st' e.to=(st'.1.set e.to ť,st'.2++[e.to]):=by simp[co,hib]
        rw[hv1]at hfold hv2;simp(disch:=omega) [-zAa,hib,hvl,hb,hgl2];exact hM.out _<|Nx.mk (b,l,st'.1.set e.to ť,st'.2++[e.to]) (by simp) ⟨hc',hv2,λj hj'=>hj j (by simp[hj']),hfold⟩ (by simp)
 ·rintro⟨f,i,st⟩ ⟨hG,hgo,hfi⟩ M hM
  simp only at hG hgo hfi;have hlen:=hG.len;have hile:=hG.le;have hsle:=cU N.n st.2 hG.nodup hG.lt;cases f with
  |zero=>omega
  |succ f=>
  have hrch:∀s,st.2[i]?=ś s->∀j∈dI N.edges s N.edges.length,j<N.edges.length/\NReach N.edges q (toE N.edges j):=λs hs j hj=>by
   obtain⟨h1,e,h2,h3,h4⟩:=rO.1 hj;refine⟨h1,?_⟩;simp only[toE,h2];exact .step (hG.reach s (zAb hs)) (zAb h2) h3 h4
  have dn:st.2[i]?=none->st=R:=λh=>by grind[ig]
  have nx:∀s,st.2[i]?=ś s->∀st':List Bool×List Nat,st'=(G8 N.edges s).foldl co st->∀τ:St,τ.nrm [1,2,3,7]=⟨[(1,.ref 0 N.n),(2,.ref 1 st'.2.length),(3,.ptr 2 0),(7,.int .i64 ((i:Int)+1))],[ś (.arr aH 1 (st'.1.map V.bool)),ś (.arr ap 1 (st'.2.map nV)),ś (.box (wP N.edges (gr N.edges N.n)))]⟩->M τ:=by
   intro s hs st' he τ hτ;subst he;refine hM.out τ<|Nx.mk (f,i+1,_) (by simpa using hτ) ⟨hG.next hto hs,by grind[ig],by simp only;omega⟩ (by simp only;omega)
  simp(disch:=omega) [-zAa];cases hs:st.2[i]? with
  |none=>
    simp_all
  |some s=>
    have hil:=(zAd.1 hs).1;have hsn:=hG.lt s (zAb hs);obtain⟨a,ha,hch⟩:=CZ hfr hsn;have hnx:=nx s hs;simp(disch:=omega) [-zAa,hs,ha,hlen,hgl1,hgl2]
    refine ah (λ(x:Nat×List Nat×List Bool×List Nat)=>⟨[(1,.ref 0 N.n),(2,.ref 1 x.2.2.2.length),(3,.ptr 2 0),(7,nV i),(8,nV x.1)],[ś (.arr aH 1 (x.2.2.1.map V.bool)),ś (.arr ap 1 (x.2.2.2.map nV)),ś (.box (wP N.edges (gr N.edges N.n)))]⟩)
     (λx=>G5 (gr N.edges N.n).2 x.1 x.2.1/\VInv N.edges N.n q x.2.2/\(∀j∈x.2.1,j<N.edges.length/\NReach N.edges q (toE N.edges j))/\(x.2.1.map (toE N.edges)).foldl co x.2.2=(G8 N.edges s).foldl co st) (λx=>x.2.1.length) [] _ (a,dI N.edges s N.edges.length,st) rfl (by simp[]) ⟨hch,⟨hG.len,hG.nodup,hG.mem,hG.lt,hG.reach⟩,hrch s hs,rfl⟩ ?_
    rintro⟨at',l,st'⟩ ⟨hc,hv,hj,hfold⟩ M hM;simp only at hc hv hj hfold;cases l with
    |nil=>
      have:at'=0:=hc;subst this;simp only[zBj,zBh]at hfold;simp(disch:=omega) [-zAa];exact hnx st' hfold _ (by simp[])
    |cons j l=>
      obtain⟨rfl,b,hb,hc'⟩:=hc;obtain⟨hjl,hjr⟩:=hj j (by simp)
      obtain⟨e,he⟩:=av hjl;have hte:toE N.edges j=e.to:=by simp[toE,he]
      have het:=(h.ends e (zAb he)).2.1;obtain⟨ib,hib⟩:=av (l:=st'.1) (k:=e.to) (by rw[hv.len];exact het)
      simp only[zBi,zBc,hte]at hfold;rw[hte]at hjr;have hv2:=hv.visit het hjr;have hsl:=cU N.n st'.2 hv.nodup hv.lt;have hvl:=hv.len;simp(disch:=omega) [-zAa,he,hib,hvl,hb];cases ib with
      |true=>
        have hv1:co st' e.to=st':=by simp[co,hib]
        rw[hv1]at hfold;simp(disch:=omega) [-zAa,hb,hgl2];exact hM.out _<|Nx.mk (b,l,st') (by simp) ⟨hc',hv,λj hj'=>hj j (by simp[hj']),hfold⟩ (by simp)
      |false=>
        have hv1:co st' e.to=(st'.1.set e.to ť,st'.2++[e.to]):=by simp[co,hib]
        rw[hv1]at hfold hv2;simp(disch:=omega) [-zAa,hib,hvl,hb,hgl2];exact hM.out _<|Nx.mk (b,l,st'.1.set e.to ť,st'.2++[e.to]) (by simp) ⟨hc',hv2,λj hj'=>hj j (by simp[hj']),hfold⟩ (by simp)
theorem OS{N}(h:N.ok)(hl:N.edges.length<=1000000){q}(hq:q<N.n):Fn ŷ MG [.strct (Net.c N),.seq 1 [nV q],.fn (.func kR) [] []] (.seq 1 ((nO N.edges N.n q).map .bool)):=by
 refine yoE Nt ?_;have h2:=h.le;have hto:∀e∈N.edges,e.to<N.n:=λe he=>(h.ends e he).2.1;obtain⟨R,hR⟩:∃R,R=nO N.edges N.n q:=⟨_,rfl⟩;rw[<-hR];have hst:=zE N q;rw[decide_eq_true hq]at hst;simp at hst;simp(disch:=omega) [-zAa]
 refine ah (λ(k:Nat)=>⟨[(2,.fn (.func kR) [] []),(3,.ptr 0 0),(7,.ref 1 N.n),(8,.ref 2 k),(14,.seq 1 [nV q]),(15,.int .i64 1),(16,nV k)],
  [ś (.box (Net.c N)),ś (.arr aH 1 ((if k=0 then zAc N.n false else(zAc N.n false).set q ť).map V.bool)),ś (.arr ap 1 ((if k=0 then[]else[q]).map nV))]⟩) (λk=>k<=1) (λk=>1-k) [.r 8 ap 1] _ 0 rfl (by simp[-zAa]) (by simp) ?_
 intro k hk M hM;rcases(show k=0\/k=1 by omega)with rfl|rfl
 ·simp(disch:=omega) [-zAa]
  refine aa hst rfl λ_=>?_;simp(disch:=omega) [-zAa,hq];exact hM.out _<|Nx.mk 1 (by simp[-zAa]) (by simp) (by simp)
 ·simp(disch:=omega) [-zAa]
  refine ae (by simpa using OU h hl) (by simp) λ_=>?_
  simp(disch:=omega) [-zAa];have hg:=Zx h hl q ((zAc N.n false).set q ť,[q]) (KS hq);have hRG:ig N.edges (N.n+1) 0 ((zAc N.n false).set q ť,[q])=(R,(ig N.edges (N.n+1) 0 ((zAc N.n false).set q ť,[q])).2):=by rw[hR];rfl
  rw[hRG]at hg;have hRl:R.length=N.n:=by grind[nN]
  refine am [1] 1 [1,2] (by simp) (by simp) (by simp) (by simp) hg (by simp) λ_ _=>?_
  simp(disch:=omega) [-zAa,hRl]
theorem Df{N}(h:N.ok)(hl:N.edges.length<=1000000){q}(hq:q<N.n):Fn ŷ Co [.strct (Net.c N),.seq 1 [nV q]] (di (j7 N.edges N.n q)):=by
 refine yoA SI ?_;have h2:=h.le;have hto:∀e∈N.edges,e.to<N.n:=λe he=>(h.ends e he).2.1;have hm:=Qu h hl;simp at hm;have hr:=OS h hl hq;simp at hr;have hcl:=(nN hto hq).1;simp(disch:=omega) [-zAa];refine aa hm rfl λ_=>?_;simp(disch:=omega) [-zAa];refine ae hr (by simp) λ_=>?_
 simp(disch:=omega) [-zAa];refine fD (T0 _ (by omega)) λ_=>?_
 simp_all[zAa,j7]
end Go.Abs
end
