/- Expressions as trees, plainly: what they match, and how their nets come to be, part by part. No condition. -/
import Derived.Test.YtbekkicfbnaaaaaGreatDoorVTh3
import Derived.Test.YtbekkicfbnaaaaaGreatDoorVTh4
import Derived.Test.YtbekkicfbnaaaaaGreatDoorVCodeA
import Derived.Test.YtbekkicfbnaaaaaGreatDoorVF1
set_option linter.all false open List renaming reduceReplicate→zAa,append_nil→zAb,mem_append→zAc,mem_append_left→zAe,replicate→zAf,append_assoc→zAg,take_of_length_le→zAh,getElem?_eq_some_iff→zAj,getElem?_map→zBa,mem_append_right→zBc,length_replicate→zBd,mem_cons→zBe,drop_eq_getElem_cons→zBf,length_cons→zBg,mem_of_getElem?→zBj,length_append→zCb,map_replicate→zCc,cons_append→zCf,map_cons→zCg,map_take→zCh,map_map→zDa
open Nat renaming le_refl→zAd,lt_or_ge→zAi,le_succ→zBh,eq_or_lt_of_le→zCa,zero_le→zCe,add_assoc→zCi
open Bool renaming and_eq_true→zBb
open Option renaming map_eq_some_iff→zBi,not_isSome→zCd
open Prod.mk renaming injEq→zCj
open Option.some renaming injEq→zDb open Option renaming some→ś open Bool renaming true→ť open Go.Proofs.Tryz renaming prog→ŷ
section
namespace Go.Aut
inductive Rx where
 |set (bs:List Bool)
 |seq (l:List Rx)
 |alt (l:List Rx)
 |rep (p:Rx) (op:Nat)
abbrev Lg:=List Nat->Prop
inductive Star (L:Lg):Lg
 |nil:Star L []
 |snoc {u v:List Nat}:Star L u->L v->Star L (u++v)
def cat(A B:Lg):Lg:=λw=>∃u v,w=u++v/\A u/\B v
def ab4(L:Lg):Lg:=cat (Star L) L
mutual
def den:Rx->Lg
 | .set bs=>λw=>∃c,w=[c]/\bs[c]?=ś ť
 | .seq l=>tH l
 | .alt l=>Ls l
 | .rep p op=>λw=>if op=63 then w=[]\/den p w else if op=42 then Star (den p) w else ab4 (den p) w
def tH:List Rx->Lg
 |[]=>λw=>w=[]
 |p::l=>cat (den p) (tH l)
def Ls:List Rx->Lg
 |[]=>λ_=>False
 |p::l=>λw=>den p w\/Ls l w
end
structure Job where
 p:Rx
 fr:Nat
 to:Nat
def tk(e:NEdge)(c:Nat):Bool:=decide (e.low<=c+32/\c+32<=e.high)
inductive Rg (E:List NEdge) (W:List Job):Nat->Lg
 |start:Rg E W 0 []
 |free {q:Nat} {u:List Nat} {e:NEdge}:Rg E W q u->e∈E->e.free=ť->e.fr=q->Rg E W e.to u
 |take {q:Nat} {u:List Nat} {e:NEdge} {c:Nat}:Rg E W q u->e∈E->tk e c=ť->c<95->e.fr=q->Rg E W e.to (u++[c])
 |job {q:Nat} {u v:List Nat} {j:Job}:Rg E W q u->j∈W->j.fr=q->den j.p v->Rg E W j.to (u++v)
structure Wf (n:Nat) (E:List NEdge) (W:List Job):Prop where
 two:2<=n
 edges:∀e∈E,e.fr<n/\e.to<n
 jobs:∀j∈W,j.fr<n/\j.to<n
def mix(n:Nat)(A F:Nat->Lg)(q:Nat):Lg:=if q<n then A q else F q
theorem cb{n A F q}(h:q<n):mix n A F q=A q:=if_pos h
theorem g9{n A F q}(h:n<=q):mix n A F q=F q:=if_neg (by omega)
theorem Xb{n n' E es W0 js j}(hw:Wf n E (W0++[j]))(F)
 (hf:∀u v,Rg (E++es) (W0++js) j.fr u->den j.p v->Rg (E++es) (W0++js) j.to (u++v))
 (hF:∀q,n<=q->q<n'->∀u,(∀v,Rg E (W0++[j]) j.fr v->Rg (E++es) (W0++js) j.fr v)->F q u->Rg (E++es) (W0++js) q u)
 (hes:∀e∈es,e.free=ť->∀u,mix n (Rg E (W0++[j])) F e.fr u->mix n (Rg E (W0++[j])) F e.to u)
 (htk:∀e∈es,∀c,c<95->tk e c=ť->∀u,mix n (Rg E (W0++[j])) F e.fr u->mix n (Rg E (W0++[j])) F e.to (u++[c]))
 (hjs:∀k∈js,∀u v,mix n (Rg E (W0++[j])) F k.fr u->den k.p v->mix n (Rg E (W0++[j])) F k.to (u++v)):
 (∀q<n,∀u,Rg E (W0++[j]) q u↔Rg (E++es) (W0++js) q u)/\∀q,n<=q->q<n'->∀u,F q u↔Rg (E++es) (W0++js) q u:=by
 have fwd:∀q u,Rg E (W0++[j]) q u->Rg (E++es) (W0++js) q u:=by
  intro q u h
  induction h with
  |start=>exact .start
  |free _ he hf he2 ih=>exact .free ih (zAe _ he) hf he2
  |take _ he ht hc he2 ih=>exact .take ih (zAe _ he) ht hc he2
  |job _ hj hjf hd ih=>
    rcases zAc.1 hj with h|h
    ·exact .job ih (zAe _ h) hjf hd
    simp_all
 have back:∀q u,Rg (E++es) (W0++js) q u->mix n (Rg E (W0++[j])) F q u:=by
  intro q u h
  induction h with
  |start=>rw[cb (by have:=hw.two;omega)];exact .start
  | @free q u e _ he hfr he2 ih=>
    subst he2;rcases zAc.1 he with h|h
    ·obtain⟨h1,h2⟩:=hw.edges e h
     rw[cb h1]at ih;rw[cb h2];exact .free ih h hfr rfl
    simp_all
  | @take q u e c _ he ht hc he2 ih=>
    subst he2;rcases zAc.1 he with h|h
    ·obtain⟨h1,h2⟩:=hw.edges e h
     rw[cb h1]at ih;rw[cb h2];exact .take ih h ht hc rfl
    simp_all
  | @job q u v k _ hk hkf hd ih=>
    subst hkf;rcases zAc.1 hk with h|h
    ·obtain⟨h1,h2⟩:=hw.jobs k (zAe _ h)
     rw[cb h1]at ih;rw[cb h2];exact .job ih (zAe _ h) rfl hd
    simp_all
 refine⟨λq hq u=>⟨fwd q u,λh=>?_⟩,λq hq hq' u=>⟨hF q hq hq' u (λv=>fwd _ v),λh=>?_⟩⟩
 ·have:=back q u h;rwa[cb hq]at this
 ·have:=back q u h;rwa[g9 (by omega)]at this
def sat(cls:List Nat->List Nat->Prop)(P:Lg):Prop:=∀u v,(∀c∈u,c<95)->(∀c∈v,c<95)->cls u v->P u->P v
mutual
def gY(cls:List Nat->List Nat->Prop):Lg->Rx->Prop
 |_,.set _=>True
 |X,.seq l=>Ek cls X l
 |X,.alt l=>Q8 cls X l
 |X,.rep p op=>if op=63 then gY cls X p else if op=42 then sat cls (cat X (Star (den p)))/\gY cls (cat X (Star (den p))) p
   else sat cls (cat X (Star (den p)))/\sat cls (cat X (ab4 (den p)))/\gY cls (cat X (Star (den p))) p
def Ek(cls:List Nat->List Nat->Prop):Lg->List Rx->Prop
 |_,[]=>True
 |X,p::l=>gY cls X p/\(l=[]\/(sat cls (cat X (den p))/\Ek cls (cat X (den p)) l))
def Q8(cls:List Nat->List Nat->Prop):Lg->List Rx->Prop
 |_,[]=>True
 |X,p::l=>gY cls X p/\Q8 cls X l
end
structure Sys where
 n:Nat
 E:List NEdge
 W:List Job
def Sys.P(S:Sys)(q:Nat):Lg:=Rg S.E S.W q
structure Sys.ok (cls:List Nat->List Nat->Prop) (S:Sys):Prop where
 wf:Wf S.n S.E S.W
 st:∀q<S.n,sat cls (S.P q)
 jb:∀j∈S.W,gY cls (S.P j.fr) j.p
structure Sim (S T:Sys):Prop where
 le:S.n<=T.n
 eq:∀q<S.n,S.P q=T.P q
theorem Sim.trans{S T U}(h:Sim S T)(k:Sim T U):Sim S U:=
 ⟨Nat.le_trans h.le k.le,λq hq=>(h.eq q hq).trans (k.eq q (Nat.lt_of_lt_of_le hq h.le))⟩
def fre(a b:Nat):NEdge:=⟨a,b,1,0⟩
theorem mc(a b):(fre a b).free=true:=by simp[fre,NEdge.free]
theorem TD(a b c):tk (fre a b) c=false:=by simp[fre,tk]
theorem Star.one{L v}(h:L v):Star L v:=by simpa using Star.snoc (L:=L) .nil h
theorem abe{A L u}(h:A u):cat A (Star L) u:=⟨u,[],by simp,h,.nil⟩
theorem agq{A L u v}(h:cat A (Star L) u)(hv:L v):cat A (Star L) (u++v):=by
 obtain⟨a,b,rfl,h1,h2⟩:=h;exact⟨a,b++v,by simp,h1,.snoc h2 hv⟩
variable {cls:List Nat->List Nat->Prop}{n:Nat}{E:List NEdge}{W0:List Job}{fr to:Nat}
theorem pZ{n' es js j}(h:(Sys.mk n E (W0++[j])).ok cls)(hn:n<=n')(F)(hwf:Wf n' (E++es) (W0++js))
 (he:(∀q<n,∀u,Rg E (W0++[j]) q u↔Rg (E++es) (W0++js) q u)/\∀q,n<=q->q<n'->∀u,F q u↔Rg (E++es) (W0++js) q u)
 (hs:∀q,n<=q->q<n'->sat cls (F q)) (hj:∀k∈js,gY cls (mix n (Rg E (W0++[j])) F k.fr) k.p):
 (Sys.mk n' (E++es) (W0++js)).ok cls/\Sim ⟨n,E,W0++[j]⟩ ⟨n',E++es,W0++js⟩:=by
 have e1:∀q<n,Rg E (W0++[j]) q=Rg (E++es) (W0++js) q:=λq hq=>funext λu=>propext (he.1 q hq u);have e2:∀q,n<=q->q<n'->F q=Rg (E++es) (W0++js) q:=λq h1 h2=>funext λu=>propext (he.2 q h1 h2 u);refine⟨⟨hwf,λq hq=>?_,λk hk=>?_⟩,hn,λq hq=>e1 q hq⟩
 ·by_cases hqn:q<n
  ·have:=h.st q hqn
   grind[Sys.P]
  grind[Sys.P]
 ·simp only[Sys.P]
  rcases zAc.1 hk with h1|h1
  ·have h2:=h.jb k (zAe _ h1)
   have h3:=(h.wf.jobs k (zAe _ h1)).1;grind[Sys.P]
  ·have h2:=hj k h1
   have h3:=(hwf.jobs k (zBc _ h1)).1;grind[cb,g9]
theorem FL{n' es js j}(h:Wf n E (W0++[j]))(hn:n<=n')(he:∀e∈es,e.fr<n'/\e.to<n')(hj:∀k∈js,k.fr<n'/\k.to<n'):Wf n' (E++es) (W0++js):=by
 refine⟨by have:=h.two;omega,λe hm=>?_,λk hm=>?_⟩
 ·rcases zAc.1 hm with h1|h1
  ·have:=h.edges e h1;omega
  ·exact he e h1
 ·rcases zAc.1 hm with h1|h1
  ·have:=h.jobs k (zAe _ h1);omega
  ·exact hj k h1
theorem bm{j}:j∈W0++[j]:=by simp
theorem aew{bs es}(h:(Sys.mk n E (W0++[⟨.set bs,fr,to⟩])).ok cls)(h1:∀e∈es,e.fr=fr/\e.to=to/\e.free=false)
 (h2:∀c<95,(bs[c]?=ś ť↔∃e∈es,tk e c=ť)) (hb:bs.length=95):(Sys.mk n (E++es) (W0++[])).ok cls/\Sim ⟨n,E,W0++[⟨.set bs,fr,to⟩]⟩ ⟨n,E++es,W0++[]⟩:=by
 have hw:Wf n E (W0++[_]):=h.wf;obtain⟨k1,k2⟩:=hw.jobs _ bm;simp only at k1 k2;refine pZ h (zAd _) (λ_ _=>False) (FL hw (zAd _) (λe he=>by simp_all) (λk hk=>by cases hk)) (Xb hw _ ?_ ?_ ?_ ?_ ?_) (λq h1 h2=>by omega) (λk hk=>by cases hk)
 ·intro u v hu hd
  simp only[den]at hd;obtain⟨c,rfl,hc⟩:=hd;have hc95:c<95:=by grind
  obtain⟨e,he,ht⟩:=(h2 c hc95).1 hc;obtain⟨g1,g2,_⟩:=h1 e he;have:=Rg.take hu (zBc _ he) ht hc95 g1;rwa[g2]at this
 ·intro q h1 h2;omega
 ·simp_all
 ·intro e he c hc ht u hu
  obtain⟨g1,g2,_⟩:=h1 e he;rw[g1,cb k1]at hu;rw[g2,cb k2];refine Rg.job (j:=⟨.set bs,fr,to⟩) hu bm rfl ?_;simp only[den];grind
 simp
theorem aez(h:(Sys.mk n E (W0++[⟨.seq [],fr,to⟩])).ok cls):(Sys.mk n (E++[fre fr to]) (W0++[])).ok cls/\Sim ⟨n,E,W0++[⟨.seq [],fr,to⟩]⟩ ⟨n,E++[fre fr to],W0++[]⟩:=by
 have hw:Wf n E (W0++[_]):=h.wf;obtain⟨k1,k2⟩:=hw.jobs _ bm;simp only at k1 k2;refine pZ h (zAd _) (λ_ _=>False) (FL hw (zAd _) (λe he=>by simp at he;subst he;exact⟨k1,k2⟩) (λk hk=>by cases hk)) (Xb hw _ ?_ ?_ ?_ ?_ ?_) (λq h1 h2=>by omega) (λk hk=>by cases hk)
 ·intro u v hu hd
  simp only[den,tH]at hd;subst hd;rw[zAb u];have hu2:Rg (E++[fre fr to]) (W0++[]) fr u:=hu;exact Rg.free (e:=fre fr to) hu2 (by simp) (mc _ _) rfl
 ·intro q h1 h2;omega
 ·intro e he hf u hu
  simp at he;subst he;simp only[fre]at hu⊢;rw[cb k1]at hu;rw[cb k2];have:=Rg.job (j:=⟨.seq [],fr,to⟩) (v:=[]) hu bm rfl (by simp only[den,tH])
  rwa[zAb]at this
 ·grind[TD]
 simp
theorem Xf{p w}:tH [p] w↔den p w:=by
 simp_all[tH,cat]
theorem aey{p}(h:(Sys.mk n E (W0++[⟨.seq [p],fr,to⟩])).ok cls):(Sys.mk n (E++[]) (W0++[⟨p,fr,to⟩])).ok cls/\Sim ⟨n,E,W0++[⟨.seq [p],fr,to⟩]⟩ ⟨n,E++[],W0++[⟨p,fr,to⟩]⟩:=by
 have hw:Wf n E (W0++[_]):=h.wf;obtain⟨k1,k2⟩:=hw.jobs _ bm;have hj:=h.jb _ bm;simp only at k1 k2;refine pZ h (zAd _) (λ_ _=>False) (FL hw (zAd _) (λe he=>by cases he) (λk hk=>by simp_all)) (Xb hw _ ?_ ?_ ?_ ?_ ?_) (λq h1 h2=>by omega) ?_
 ·intro u v hu hd
  simp only[den]at hd;exact Rg.job (j:=⟨p,fr,to⟩) hu bm rfl (Xf.1 hd)
 ·intro q h1 h2;omega
 ·intro e he;cases he
 ·intro e he;cases he
 ·intro k hk u v hu hd
  simp at hk;subst hk;simp only at hu⊢;rw[cb k1]at hu;rw[cb k2];refine Rg.job (j:=⟨.seq [p],fr,to⟩) hu bm rfl ?_;simp_all[den,Xf]
 ·intro k hk
  simp at hk;subst hk;simp only[cb k1];simp only[gY,Ek]at hj;exact hj.1
theorem aev{p q0 l}(h:(Sys.mk n E (W0++[⟨.seq (p::q0::l),fr,to⟩])).ok cls):
 (Sys.mk (n+1) (E++[]) (W0++[⟨p,fr,n⟩,⟨.seq (q0::l),n,to⟩])).ok cls/\Sim ⟨n,E,W0++[⟨.seq (p::q0::l),fr,to⟩]⟩ ⟨n+1,E++[],W0++[⟨p,fr,n⟩,⟨.seq (q0::l),n,to⟩]⟩:=by
 have hw:Wf n E (W0++[_]):=h.wf;obtain⟨k1,k2⟩:=hw.jobs _ bm;have hj:=h.jb _ bm;simp only at k1 k2;simp only[gY,Ek,reduceCtorEq,false_or]at hj;simp only[Sys.P]at hj;have hd:∀w,den (.seq (p::q0::l)) w↔cat (den p) (den (.seq (q0::l))) w:=λw=>by simp only[den,tH]
 refine pZ h (zBh _) (λ_=>cat (Rg E (W0++[⟨.seq (p::q0::l),fr,to⟩]) fr) (den p)) (FL hw (zBh _) (λe he=>by cases he) (λk hk=>by
  grind)) (Xb hw _ ?_ ?_ ?_ ?_ ?_) (λq h1 h2=>hj.2.1) ?_
 ·intro u v hu hdv
  obtain⟨a,b,rfl,h1,h2⟩:=(hd v).1 hdv;rw[<-zAg];refine Rg.job (j:=⟨.seq (q0::l),n,to⟩) (q:=n) ?_ (by simp) rfl h2
  exact Rg.job (j:=⟨p,fr,n⟩) hu (by simp) rfl h1
 ·intro q h1 h2 u hg hu
  have:q=n:=by omega
  subst this;obtain⟨a,b,rfl,g1,g2⟩:=hu;exact Rg.job (j:=⟨p,fr,q⟩) (hg a g1) (by simp) rfl g2
 ·intro e he;cases he
 ·intro e he;cases he
 ·intro k hk u v hu hdv
  simp at hk;rcases hk with rfl|rfl
  ·simp only at hu⊢
   rw[cb k1]at hu;rw[g9 (by omega)]
   exact⟨u,v,rfl,hu,hdv⟩
  ·simp only at hu⊢
   rw[g9 (by omega)]at hu
   rw[cb k2];obtain⟨a,b,rfl,g1,g2⟩:=hu;rw[zAg];exact Rg.job (j:=⟨.seq (p::q0::l),fr,to⟩) g1 bm rfl ((hd _).2 ⟨b,v,rfl,g2,hdv⟩)
 simp_all[cb,g9,gY,Ek]
theorem JJ{l w}:Ls l w↔∃p∈l,den p w:=by
 induction l with
 |nil=>simp[Ls]
 |cons p l ih=>simp[Ls,ih]
theorem UW{X l}:Q8 cls X l↔∀p∈l,gY cls X p:=by
 induction l with
 |nil=>simp[Q8]
 |cons p l ih=>simp[Q8,ih]
theorem aeA{l}(h:(Sys.mk n E (W0++[⟨.alt l,fr,to⟩])).ok cls):(Sys.mk n (E++[]) (W0++l.map λp=>⟨p,fr,to⟩)).ok cls/\Sim ⟨n,E,W0++[⟨.alt l,fr,to⟩]⟩ ⟨n,E++[],W0++l.map λp=>⟨p,fr,to⟩⟩:=by
 have hw:Wf n E (W0++[_]):=h.wf;obtain⟨k1,k2⟩:=hw.jobs _ bm;have hj:=h.jb _ bm;simp only at k1 k2;simp only[gY,Sys.P]at hj;refine pZ h (zAd _) (λ_ _=>False) (FL hw (zAd _) (λe he=>by cases he) (λk hk=>by grind)) (Xb hw _ ?_ ?_ ?_ ?_ ?_) (λq h1 h2=>by omega) ?_
 ·intro u v hu hd
  simp only[den]at hd;obtain⟨p,hp,hd⟩:=JJ.1 hd;exact Rg.job (j:=⟨p,fr,to⟩) hu (zBc _ (List.mem_map.2 ⟨p,hp,rfl⟩)) rfl hd
 ·intro q h1 h2;omega
 ·intro e he;cases he
 ·intro e he;cases he
 ·intro k hk u v hu hd
  simp at hk;obtain⟨p,hp,rfl⟩:=hk;simp only at hu⊢;rw[cb k1]at hu;rw[cb k2];refine Rg.job (j:=⟨.alt l,fr,to⟩) hu bm rfl ?_;simp only[den];grind[JJ]
 simp_all[cb,UW]
theorem aex{p}(h:(Sys.mk n E (W0++[⟨.rep p 63,fr,to⟩])).ok cls):(Sys.mk n (E++[fre fr to]) (W0++[⟨p,fr,to⟩])).ok cls/\Sim ⟨n,E,W0++[⟨.rep p 63,fr,to⟩]⟩ ⟨n,E++[fre fr to],W0++[⟨p,fr,to⟩]⟩:=by
 have hw:Wf n E (W0++[_]):=h.wf;obtain⟨k1,k2⟩:=hw.jobs _ bm;have hj:=h.jb _ bm;simp only at k1 k2;simp only[gY,Sys.P,if_true]at hj;have hd:∀w,den (.rep p 63) w↔(w=[]\/den p w):=λw=>by simp only[den,if_true]
 refine pZ h (zAd _) (λ_ _=>False) (FL hw (zAd _) (λe he=>by simp at he;subst he;exact⟨k1,k2⟩) (λk hk=>by simp_all)) (Xb hw _ ?_ ?_ ?_ ?_ ?_) (λq h1 h2=>by omega) ?_
 ·intro u v hu hdv
  rcases(hd v).1 hdv with rfl|h1
  ·rw[zAb]
   exact Rg.free hu (e:=fre fr to) (by simp) (mc _ _) rfl
  ·exact Rg.job (j:=⟨p,fr,to⟩) hu bm rfl h1
 ·intro q h1 h2;omega
 ·intro e he hf u hu
  simp at he;subst he;simp only[fre]at hu⊢;rw[cb k1]at hu;rw[cb k2];have:=Rg.job (j:=⟨.rep p 63,fr,to⟩) (v:=[]) hu bm rfl ((hd _).2 (.inl rfl));rwa[zAb]at this
 ·grind[TD]
 ·intro k hk u v hu hdv
  simp at hk;subst hk;simp only at hu⊢;rw[cb k1]at hu;rw[cb k2];exact Rg.job (j:=⟨.rep p 63,fr,to⟩) hu bm rfl ((hd _).2 (.inr hdv))
 grind[cb]
theorem abL{p}(h:(Sys.mk n E (W0++[⟨.rep p 42,fr,to⟩])).ok cls):
 (Sys.mk (n+1) (E++[fre fr n,fre n to]) (W0++[⟨p,n,n⟩])).ok cls/\Sim ⟨n,E,W0++[⟨.rep p 42,fr,to⟩]⟩ ⟨n+1,E++[fre fr n,fre n to],W0++[⟨p,n,n⟩]⟩:=by
 have hw:Wf n E (W0++[_]):=h.wf;obtain⟨k1,k2⟩:=hw.jobs _ bm;have hj:=h.jb _ bm;simp only at k1 k2;simp only[gY,Sys.P,if_true,if_neg (show ¬(42:Nat)=63 by omega)]at hj
 have hd:∀w,den (.rep p 42) w↔Star (den p) w:=λw=>by simp_all[den,if_true,if_neg]
 obtain⟨A,hA⟩:∃A,A=Rg E (W0++[⟨.rep p 42,fr,to⟩]) fr:=⟨_,rfl⟩;rw[<-hA]at hj
 have star:∀{T:Nat->Lg},(∀u v,T n u->den p v->T n (u++v))->∀a b,T n a->Star (den p) b->T n (a++b):=by
  intro T hT a b ha hb
  induction hb with
  |nil=>rwa[zAb]
  |snoc _ h2 ih=>grind
 refine pZ h (zBh _) (λ_=>cat A (Star (den p))) (FL hw (zBh _) (λe he=>by simp at he;rcases he with rfl|rfl<;>simp only[fre]<;>omega) (λk hk=>by simp_all)) (Xb hw _ ?_ ?_ ?_ ?_ ?_) (λq h1 h2=>hj.1) ?_
 ·intro u v hu hdv
  refine Rg.free (q:=n) (e:=fre n to) ?_ (by simp) (mc _ _) rfl
  refine star (T:=Rg (E++[fre fr n,fre n to]) (W0++[⟨p,n,n⟩])) (λu v h1 h2=>Rg.job (j:=⟨p,n,n⟩) h1 bm rfl h2) _ _ ?_ ((hd v).1 hdv);exact Rg.free (e:=fre fr n) hu (by simp) (mc _ _) rfl
 ·intro q h1 h2 u hg hu
  have:q=n:=by omega
  subst this;obtain⟨a,b,rfl,g1,g2⟩:=hu;rw[hA]at g1;refine star (T:=Rg (E++[fre fr q,fre q to]) (W0++[⟨p,q,q⟩])) (λu v h1 h2=>Rg.job (j:=⟨p,q,q⟩) h1 bm rfl h2) _ _ ?_ g2;exact Rg.free (e:=fre fr q) (hg a g1) (by simp) (mc _ _) rfl
 ·intro e he hf u hu
  simp at he;rcases he with rfl|rfl
  ·simp_all[fre,cb,g9,abe]
  ·simp only[fre]at hu⊢
   rw[g9 (by omega)]at hu
   rw[cb k2];obtain⟨a,b,rfl,g1,g2⟩:=hu;rw[hA]at g1;exact Rg.job (j:=⟨.rep p 42,fr,to⟩) g1 bm rfl ((hd _).2 g2)
 ·simp_all[TD]
 ·simp_all[g9,agq]
 grind[g9]
theorem abK{p op}(ho:op≠63)(ho2:op≠42)(h:(Sys.mk n E (W0++[⟨.rep p op,fr,to⟩])).ok cls):
 (Sys.mk (n+2) (E++[fre fr n,fre (n+1) n,fre (n+1) to]) (W0++[⟨p,n,n+1⟩])).ok cls/\Sim ⟨n,E,W0++[⟨.rep p op,fr,to⟩]⟩ ⟨n+2,E++[fre fr n,fre (n+1) n,fre (n+1) to],W0++[⟨p,n,n+1⟩]⟩:=by
 have hw:Wf n E (W0++[_]):=h.wf;obtain⟨k1,k2⟩:=hw.jobs _ bm;have hj:=h.jb _ bm;simp only at k1 k2;simp only[gY,Sys.P,if_neg ho,if_neg ho2]at hj;have hd:∀w,den (.rep p op) w↔ab4 (den p) w:=λw=>by simp_all[den,if_neg]
 obtain⟨A,hA⟩:∃A,A=Rg E (W0++[⟨.rep p op,fr,to⟩]) fr:=⟨_,rfl⟩;rw[<-hA]at hj;obtain⟨B,hB⟩:∃B,B=Rg (E++[fre fr n,fre (n+1) n,fre (n+1) to]) (W0++[⟨p,n,n+1⟩]):=⟨_,rfl⟩;have b1:∀u,B fr u->B n u:=λu hu=>by rw[hB]at hu⊢;exact Rg.free (e:=fre fr n) hu (by simp) (mc _ _) rfl
 have b2:∀u,B (n+1) u->B n u:=λu hu=>by rw[hB]at hu⊢;exact Rg.free (e:=fre (n+1) n) hu (by simp) (mc _ _) rfl
 have b3:∀u,B (n+1) u->B to u:=λu hu=>by rw[hB]at hu⊢;exact Rg.free (e:=fre (n+1) to) hu (by simp) (mc _ _) rfl
 have b4:∀u v,B n u->den p v->B (n+1) (u++v):=λu v hu hv=>by rw[hB]at hu⊢;exact Rg.job (j:=⟨p,n,n+1⟩) hu bm rfl hv
 have star:∀a b,B n a->Star (den p) b->B n (a++b):=by
  intro a b ha hb
  induction hb with
  |nil=>rwa[zAb]
  |snoc _ h2 ih=>grind
 have hnm:∀q,n<=q->q<n+2->q=n\/q=n+1:=λq h1 h2=>by omega
 obtain⟨F,hFn,hFm⟩:∃F:Nat->Lg,F n=cat A (Star (den p))/\F (n+1)=cat A (ab4 (den p)):=⟨λq=>if q=n then cat A (Star (den p))else cat A (ab4 (den p)),by simp,by simp⟩
 refine pZ h (by omega) F (FL hw (by omega) (λe he=>by simp at he;rcases he with rfl|rfl|rfl<;>simp only[fre]<;>omega) (λk hk=>by simp_all)) (Xb hw _ ?_ ?_ ?_ ?_ ?_) ?_ ?_
 ·intro u v hu hdv
  rw[<-hB]at hu⊢;obtain⟨a,b,rfl,g1,g2⟩:=(hd v).1 hdv;grind
 ·intro q h1 h2 u hg hu
  rw[<-hB]at hg⊢;rcases hnm q h1 h2 with rfl|rfl
  ·rw[hFn]at hu
   obtain⟨a,b,rfl,g1,g2⟩:=hu;rw[hA]at g1;grind
  ·rw[hFm]at hu
   obtain⟨a,b,rfl,g1,c,d,rfl,g2,g3⟩:=hu;rw[hA]at g1;grind
 ·intro e he hf u hu
  simp at he;rcases he with rfl|rfl|rfl
  ·simp_all[fre,cb,g9,abe]
  ·simp only[fre]at hu⊢
   rw[g9 (by omega),hFm]at hu
   rw[g9 (by omega),hFn]
   obtain⟨a,b,rfl,g1,c,d,rfl,g2,g3⟩:=hu;exact⟨a,c++d,rfl,g1,.snoc g2 g3⟩
  ·simp only[fre]at hu⊢
   rw[g9 (by omega),hFm]at hu
   rw[cb k2];obtain⟨a,b,rfl,g1,g2⟩:=hu;rw[hA]at g1;exact Rg.job (j:=⟨.rep p op,fr,to⟩) g1 bm rfl ((hd _).2 g2)
 ·simp_all[TD]
 ·intro k hk u v hu hdv
  simp at hk;subst hk;simp only at hu⊢;rw[g9 (by omega),hFn]at hu
  rw[g9 (by omega),hFm]
  obtain⟨a,b,rfl,g1,g2⟩:=hu;exact⟨a,b++v,by simp,g1,b,v,rfl,g2,hdv⟩
 ·grind
 grind[g9]
def uU(bs:List Bool):Nat->Nat->Nat
 |0,i=>i
 |f+1,i=>if i+1<95/\bs[i+1]?=ś ť then uU bs f (i+1)else i
def pU(bs:List Bool)(fr to:Nat):Nat->Nat->List NEdge
 |0,_=>[]
 |f+1,i=>if i<95 then(if bs[i]?=ś ť then⟨fr,to,32+i,32+uU bs 95 i⟩::pU bs fr to f (uU bs 95 i+1)else pU bs fr to f (i+1))else[]
def ah1(bs:List Bool)(fr to:Nat):List NEdge:=pU bs fr to 95 0
theorem Em(bs):∀(f i:Nat),i<95->bs[i]?=ś ť->i<=uU bs f i/\uU bs f i<95/\∀k,i<=k->k<=uU bs f i->bs[k]?=ś ť
 |0,i,hi,hb=>by
   simp only[uU];grind
 |f+1,i,hi,hb=>by
   simp only[uU];split
   ·rename_i h
    obtain⟨h1,h2,h3⟩:=Em bs f (i+1) h.1 h.2;grind
   grind
theorem sJ(bs)(fr to):∀(f i:Nat),95<=f+i->(∀e∈pU bs fr to f i,e.fr=fr/\e.to=to/\e.free=false/\e.low<256/\e.high<256)/\∀c<95,((∃e∈pU bs fr to f i,tk e c=ť)↔i<=c/\bs[c]?=ś ť)
 |0,i,hf=>by
   grind[pU]
 |f+1,i,hf=>by
   simp only[pU];split
   ·rename_i hi
    split
    ·rename_i hb
     obtain⟨h1,h2,h3⟩:=Em bs 95 i hi hb;obtain⟨g1,g2⟩:=sJ bs fr to f (uU bs 95 i+1) (by omega)
     refine⟨λe he=>?_,λc hc=>?_⟩
     ·rcases zBe.1 he with rfl|he
      ·refine⟨rfl,rfl,?_,?_,?_⟩
       ·grind[NEdge.free,decide_eq_false_iff_not]
       ·simp only;omega
       ·simp only;omega
      ·exact g1 e he
     ·have e1:=g2 c hc
      constructor
      ·rintro⟨e,he,ht⟩
       rcases zBe.1 he with rfl|he
       ·simp only[tk,decide_eq_true_eq]at ht
        grind
       grind
      ·rintro⟨k1,k2⟩
       by_cases hr:c<=uU bs 95 i
       ·exact⟨_,List.mem_cons_self,by simp only[tk,decide_eq_true_eq];omega⟩
       grind
    ·rename_i hb
     obtain⟨g1,g2⟩:=sJ bs fr to f (i+1) (by omega)
     grind
   grind
theorem Ej(bs)(fr to):∀(f i:Nat),(pU bs fr to f i).length<=f
 |0,i=>by simp[pU]
 |f+1,i=>by
   simp only[pU];split
   ·split
    ·have:=Ej bs fr to f (uU bs 95 i+1);simp;omega
    ·have:=Ej bs fr to f (i+1);omega
   ·simp
def oA(to:Nat):Rx->List Rx->Nat->Nat->List Job
 |p,[],fr,_=>[⟨p,fr,to⟩]
 |p,q::l,fr,n=>⟨p,fr,n⟩::oA to q l n (n+1)
def bT(j:Job)(n:Nat):Nat×List NEdge×List Job:=match j.p with
 | .set bs=>(n,ah1 bs j.fr j.to,[])
 | .seq []=>(n,[fre j.fr j.to],[])
 | .seq (p::l)=>(n+l.length,[],oA j.to p l j.fr n)
 | .alt l=>(n,[],l.map λp=>⟨p,j.fr,j.to⟩)
 | .rep p op=>if op=63 then(n,[fre j.fr j.to],[⟨p,j.fr,j.to⟩])else if op=42 then(n+1,[fre j.fr n,fre n j.to],[⟨p,n,n⟩])
   else(n+2,[fre j.fr n,fre (n+1) n,fre (n+1) j.to],[⟨p,n,n+1⟩])
def zf:Nat->Nat->List NEdge->List Job->Option (Nat×List NEdge)
 |0,_,_,_=>none
 |f+1,n,E,W=>match W.getLast? with
   |none=>ś (n,E)
   |some j=>zf f (bT j n).1 (E++(bT j n).2.1) (W.dropLast++(bT j n).2.2)
mutual
def wfR:Rx->Bool
 | .set bs=>decide (bs.length=95)
 | .seq l=>pO l
 | .alt l=>pO l
 | .rep p _=>wfR p
def pO:List Rx->Bool
 |[]=>ť
 |p::l=>wfR p&&pO l
end
mutual
def cC:Rx->Nat
 | .set _=>1
 | .seq l=>1+cT l
 | .alt l=>1+cT l
 | .rep p _=>1+cC p
def cT:List Rx->Nat
 |[]=>0
 |p::l=>cC p+cT l
end
mutual
def fresh:Rx->Nat
 | .set _=>0
 | .seq l=>(l.length-1)+dj l
 | .alt l=>dj l
 | .rep p op=>(if op=63 then 0 else if op=42 then 1 else 2)+fresh p
def dj:List Rx->Nat
 |[]=>0
 |p::l=>fresh p+dj l
end
theorem UF:∀{l:List Rx},pO l=ť↔∀p∈l,wfR p=ť
 |[]=>by simp[pO]
 |p::l=>by simp[pO,UF (l:=l)]
variable {cls:List Nat->List Nat->Prop}
theorem aax{to}:∀(l:List Rx)(p:Rx)(fr n:Nat)(E:List NEdge)(W0:List Job),(Sys.mk n E (W0++[⟨.seq (p::l),fr,to⟩])).ok cls->
 (Sys.mk (n+l.length) E (W0++oA to p l fr n)).ok cls/\Sim ⟨n,E,W0++[⟨.seq (p::l),fr,to⟩]⟩ ⟨n+l.length,E,W0++oA to p l fr n⟩
 |[],p,fr,n,E,W0,h=>by
   have:=aey h;simpa[oA]using this
 |q::l,p,fr,n,E,W0,h=>by
   obtain⟨h1,h2⟩:=aev h;rw[zAb]at h1 h2;have e:W0++[⟨p,fr,n⟩,⟨.seq (q::l),n,to⟩]=(W0++[⟨p,fr,n⟩])++[(⟨.seq (q::l),n,to⟩:Job)]:=by simp
   rw[e]at h1 h2;obtain⟨h3,h4⟩:=aax l q n (n+1) E (W0++[⟨p,fr,n⟩]) h1;have e2:n+(q::l).length=n+1+l.length:=by simp;omega
   have e3:W0++oA to p (q::l) fr n=W0++[⟨p,fr,n⟩]++oA to q l n (n+1):=by simp[oA]
   rw[e2,e3];exact⟨h3,h2.trans h4⟩
theorem aiQ{n E W0 j}(h:(Sys.mk n E (W0++[j])).ok cls)(hw:wfR j.p=ť):
 (Sys.mk (bT j n).1 (E++(bT j n).2.1) (W0++(bT j n).2.2)).ok cls/\Sim ⟨n,E,W0++[j]⟩ ⟨(bT j n).1,E++(bT j n).2.1,W0++(bT j n).2.2⟩:=by
 obtain⟨p,fr,to⟩:=j;cases p with
 |set bs=>
   simp only[wfR,decide_eq_true_eq]at hw;obtain⟨g1,g2⟩:=sJ bs fr to 95 0 (by omega)
   simp only[bT];refine aew h (λe he=>?_) (λc hc=>?_) hw
   ·obtain⟨k1,k2,k3,_⟩:=g1 e he;exact⟨k1,k2,k3⟩
   ·have:=g2 c hc
    simp only[zCe,true_and]at this;exact this.symm
 |seq l=>
   grind[bT,aez,aax]
 |alt l=>grind[bT,aeA]
 |rep p op=>
   grind[bT,aex,abL,abK]
theorem aaw{to}:∀(l:List Rx)(p:Rx)(fr n:Nat),wfR p=ť->pO l=ť->∀k∈oA to p l fr n,wfR k.p=ť
 |[],p,fr,n,h1,_,k,hk=>by grind[oA]
 |q::l,p,fr,n,h1,h2,k,hk=>by
   simp only[pO,zBb]at h2;simp only[oA,zBe]at hk;rcases hk with rfl|hk
   ·exact h1
   ·exact aaw l q n (n+1) h2.1 h2.2 k hk
theorem aa5{j n}(hw:wfR j.p=ť):∀k∈(bT j n).2.2,wfR k.p=true:=by
 obtain⟨p,fr,to⟩:=j;cases p with
 |set bs=>simp[bT]
 |seq l=>
   cases l with
   |nil=>simp[bT]
   |cons p l=>
     simp only[wfR,pO,zBb]at hw;grind[bT,aaw]
 |alt l=>
   simp_all[wfR,bT,UF]
 |rep p op=>
   grind[wfR,bT]
def cn:List Job->Nat
 |[]=>0
 |j::l=>cC j.p+cn l
def bM:List Job->Nat
 |[]=>0
 |j::l=>fresh j.p+bM l
theorem jn:∀(a b:List Job),cn (a++b)=cn a+cn b
 |[],b=>by simp[cn]
 |x::a,b=>by simp only[zCf,cn,jn a b];omega
theorem ij:∀(a b:List Job),bM (a++b)=bM a+bM b
 |[],b=>by simp[bM]
 |x::a,b=>by simp only[zCf,bM,ij a b];omega
theorem Pm{to}:∀(l:List Rx)(p:Rx)(fr n:Nat),cn (oA to p l fr n)=cC p+cT l/\bM (oA to p l fr n)=fresh p+dj l
 |[],p,fr,n=>by simp[oA,cn,bM,cT,dj]
 |q::l,p,fr,n=>by
   obtain⟨h1,h2⟩:=Pm (to:=to) l q n (n+1);exact⟨by simp only[oA,cn,h1,cT],by simp only[oA,bM,h2,dj]⟩
theorem Xt{fr to:Nat}:∀l:List Rx,cn (l.map λp=>⟨p,fr,to⟩)=cT l/\bM (l.map λp=>⟨p,fr,to⟩)=dj l
 |[]=>by simp[cn,bM,cT,dj]
 |p::l=>by
   obtain⟨h1,h2⟩:=Xt (fr:=fr) (to:=to) l;exact⟨by simp only[zCg,cn,h1,cT],by simp only[zCg,bM,h2,dj]⟩
theorem Qv(j)(n):cn (bT j n).2.2+1=cC j.p/\(bT j n).1+bM (bT j n).2.2=n+fresh j.p/\(bT j n).2.1.length<=95:=by
 obtain⟨p,fr,to⟩:=j;cases p with
 |set bs=>
   refine⟨by simp[bT,cn,cC],by simp[bT,bM,fresh],?_⟩
   simp only[bT];exact Ej bs fr to 95 0
 |seq l=>
   grind[bT,cn,bM,cC,fresh,cT,dj,Pm]
 |alt l=>
   obtain⟨h1,h2⟩:=Xt (fr:=fr) (to:=to) l;simp only[bT,cC,fresh,h1,h2];grind
 |rep p op=>
   grind[bT,cC,fresh,cn,bM]
theorem C0{W}{j:Job}(h:W.getLast?=ś j):W=W.dropLast++[j]:=by
 rcases List.eq_nil_or_concat W with rfl|⟨l,x,rfl⟩
 ·simp at h
 simp_all
theorem Jo:∀(f n:Nat)(E:List NEdge)(W:List Job),(Sys.mk n E W).ok cls->(∀j∈W,wfR j.p=ť)->cn W<f->
 ∃n' E',zf f n E W=ś (n',E')/\(Sys.mk n' E' []).ok cls/\Sim ⟨n,E,W⟩ ⟨n',E',[]⟩/\n'=n+bM W/\E'.length<=E.length+95*cn W
 |0,_,_,_,_,_,hf=>by omega
 |f+1,n,E,W,h,hw,hf=>by
   simp only[zf];cases hl:W.getLast? with
   |none=>
     have:W=[]:=by simpa using hl
     subst this;exact⟨n,E,rfl,h,⟨zAd _,λ_ _=>rfl⟩,by simp[bM],by simp⟩
   |some j=>
     have e:=C0 hl;obtain⟨W0,hW0⟩:∃W0,W0=W.dropLast:=⟨_,rfl⟩;rw[<-hW0]at e;simp only[<-hW0];subst e;obtain⟨h1,h2⟩:=aiQ h (hw j (by simp))
     obtain⟨s1,s2,s3⟩:=Qv j n;have hz:cn (W0++[j])=cn W0+cC j.p:=by rw[jn];simp[cn]
     have hz2:cn (W0++(bT j n).2.2)=cn W0+cn (bT j n).2.2:=jn _ _;have hz3:bM (W0++[j])=bM W0+fresh j.p:=by rw[ij];simp[bM]
     have hz4:bM (W0++(bT j n).2.2)=bM W0+bM (bT j n).2.2:=ij _ _
     obtain⟨n',E',g1,g2,g3,g4,g5⟩:=Jo f _ _ (W0++(bT j n).2.2) h1 (λk hk=>by
      grind[aa5]) (by omega)
     refine⟨n',E',g1,g2,h2.trans g3,by omega,?_⟩
     grind
theorem start_P{p}:∀{q:Nat}{u:List Nat},Rg [] [⟨p,0,1⟩] q u↔(q=0/\u=[])\/(q=1/\den p u):=by
 intro q u;constructor
 ·intro h
  induction h with
  |start=>simp
  |free _ he=>cases he
  |take _ he=>cases he
  | @job q u v j _ hj hf hd ih=>
    grind
 ·rintro(⟨rfl,rfl⟩|⟨rfl,h⟩)
  ·exact .start
  ·have:=Rg.job (E:=[]) (W:=[⟨p,0,1⟩]) (j:=⟨p,0,1⟩) .start (by simp) rfl h
   simpa using this
theorem ZK(j)(n):∀e∈(bT j n).2.1,e.low<256/\e.high<256:=by
 obtain⟨p,fr,to⟩:=j;have hf:∀a b,(fre a b).low<256/\(fre a b).high<256:=λa b=>by simp[fre]
 cases p with
 |set bs=>
   simp only[bT];intro e he;obtain⟨_,_,_,h4,h5⟩:=(sJ bs fr to 95 0 (by omega)).1 e he
   exact⟨h4,h5⟩
 |seq l=>
   grind[bT]
 |alt l=>simp[bT]
 |rep p op=>
   simp only[bT];grind
theorem F6:∀(f n:Nat)(E:List NEdge)(W:List Job)(r:Nat×List NEdge),(∀e∈E,e.low<256/\e.high<256)->zf f n E W=ś r->∀e∈r.2,e.low<256/\e.high<256
 |0,_,_,_,_,_,h=>by simp[zf]at h
 |f+1,n,E,W,r,hE,h=>by
   simp only[zf]at h;split at h
   ·cases h;exact hE
   ·refine F6 f _ _ _ r (λe he=>?_) h
    rcases zAc.1 he with he|he
    ·exact hE e he
    ·exact ZK _ _ e he
def PO(p:Rx):Option Net:=(zf (cC p+1) 2 [] [⟨p,0,1⟩]).map λx=>⟨x.1,0,1,x.2⟩
structure NetSpec (cls:List Nat->List Nat->Prop) (p:Rx) (N:Net):Prop where
 n:N.n=2+fresh p
 start:N.start=0
 stop:N.stop=1
 edges:∀e∈N.edges,e.fr<N.n/\e.to<N.n
 bytes:∀e∈N.edges,e.low<256/\e.high<256
 len:N.edges.length<=95*cC p
 lang:∀u,Rg N.edges [] 1 u↔den p u
 sat:∀q<N.n,sat cls (Rg N.edges [] q)
theorem AM{p}(hw:wfR p=ť)(h0:sat cls λu=>u=[])(h1:sat cls (den p))(h2:gY cls (λu=>u=[]) p):∃N,PO p=ś N/\NetSpec cls p N:=by
 have e0:Rg [] [⟨p,0,1⟩] 0=λu=>u=[]:=funext λu=>propext (start_P.trans (by simp))
 have e1:Rg [] [⟨p,0,1⟩] 1=den p:=funext λu=>propext (start_P.trans (by simp))
 have hok:(Sys.mk 2 [] [⟨p,0,1⟩]).ok cls:=by
  refine⟨⟨zAd _,λe he=>(by cases he),λj hj=>by simp_all⟩,λq hq=>?_,λj hj=>?_⟩
  ·have:q=0\/q=1:=by grind
   simp only[Sys.P];grind
  grind[Sys.P]
 obtain⟨n',E',g1,g2,g3,g4,g5⟩:=Jo (cC p+1) 2 [] [⟨p,0,1⟩] hok (λj hj=>by simp_all) (by simp[cn])
 refine⟨⟨n',0,1,E'⟩,by simp[PO,g1],⟨by simpa[bM]using g4,rfl,rfl,g2.wf.edges,F6 _ _ _ _ _ (λe he=>(by cases he)) g1,by simpa[cn]using g5,λu=>?_,λq hq=>g2.st q hq⟩⟩
 have:=g3.eq 1 (by simp)
 simp_all[Sys.P]
end Go.Aut
end
section
set_option maxHeartbeats 1000000
set_option maxRecDepth 100000
namespace Go.Abs
open Go.Proofs Go.Aut
attribute [-simp] getElem?_pos zCd zDa
attribute [-simp] cl nt
@[simp] theorem cl_int {k} {n}:cl (V.int k n)=[V.int k n]:=rfl
@[simp] theorem nt_int {k} {n}:nt (V.int k n)=true:=rfl
@[simp] theorem cl_bool {b}:cl (V.bool b)=[V.bool b]:=rfl
@[simp] theorem nt_bool {b}:nt (V.bool b)=true:=rfl
@[simp] theorem cl_str {s}:cl (V.str s)=[V.str s]:=rfl
@[simp] theorem nt_str {s}:nt (V.str s)=true:=rfl
@[simp] theorem cl_nil {z}:cl (V.nil z)=[V.nil z]:=rfl
@[simp] theorem nt_nil {z}:nt (V.nil z)=true:=rfl
@[simp] theorem cl_seq {z} {l}:cl (V.seq z l)=[V.seq z l]:=rfl
@[simp] theorem nt_seq {z} {l}:nt (V.seq z l)=true:=rfl
@[simp] theorem cl_ref {i n}:cl (V.ref i n)=[V.ref i n]:=rfl
@[simp] theorem nt_ref {i n}:nt (V.ref i n)=true:=rfl
@[simp] theorem cl_ptr {i o}:cl (V.ptr i o)=[V.ptr i o]:=rfl
@[simp] theorem nt_ptr {i o}:nt (V.ptr i o)=true:=rfl
@[simp] theorem cl_eptr {i n j o}:cl (V.eptr i n j o)=[V.eptr i n j o]:=rfl
@[simp] theorem nt_eptr {i n j o}:nt (V.eptr i n j o)=true:=rfl
@[simp] theorem cl_mref {i j n}:cl (V.mref i j n)=[V.mref i j n]:=rfl
@[simp] theorem nt_mref {i j n}:nt (V.mref i j n)=true:=rfl
@[simp] theorem cl_fseq {z} {l}:cl (V.fseq z l)=[V.fseq z l]:=rfl
@[simp] theorem nt_fseq {z} {l}:nt (V.fseq z l)=true:=rfl
@[simp] theorem cl_mptr {i n j k o}:cl (V.mptr i n j k o)=[V.mptr i n j k o]:=rfl
@[simp] theorem nt_mptr {i n j k o}:nt (V.mptr i n j k o)=true:=rfl
@[simp] theorem cl_sptr {x} {o}:cl (V.sptr x o)=[V.sptr x o]:=rfl
@[simp] theorem nt_sptr {x} {o}:nt (V.sptr x o)=true:=rfl
@[simp] theorem cl_nilptr :cl (V.nilptr)=[V.nilptr]:=rfl
@[simp] theorem nt_nilptr :nt (V.nilptr)=true:=rfl
@[simp] theorem cl_fn {f} {a b}:cl (V.fn f a b)=[V.fn f a b]:=rfl
@[simp] theorem nt_fn {f} {a b}:nt (V.fn f a b)=true:=rfl
@[simp] theorem cl_nilfn :cl (V.nilfn)=[V.nilfn]:=rfl
@[simp] theorem nt_nilfn :nt (V.nilfn)=true:=rfl
@[simp] theorem cl_iface {t} {x}:cl (V.iface t x)=[V.iface t x]:=rfl
@[simp] theorem nt_iface {t} {x}:nt (V.iface t x)=true:=rfl
@[simp] theorem ajw :cl (V.niliface)=[V.niliface]:=rfl
@[simp] theorem ajt :nt (V.niliface)=true:=rfl
@[simp] theorem cl_tup {l}:cl (V.tup l)=[V.tup l]:=rfl
@[simp] theorem nt_tup {l}:nt (V.tup l)=false:=rfl
@[simp] theorem cl_junk :cl (V.junk)=[V.junk]:=rfl
@[simp] theorem nt_junk :nt (V.junk)=true:=rfl
@[simp] theorem cl_strct {l}:cl (.strct l)=l:=rfl
@[simp] theorem nt_strct {l}:nt (.strct l)=true:=rfl
theorem Fn.toH{P f us r}(h:Fn P f us r)(hu:ax us=[])(hp:purs [] us=ś us):FnH P f [] us [] r []:=by
 intro M w κ cs J hJC hp hus o a Nx Q hN
 have hus2:af M NX us cs.toList:=by
  have H:Rel 0 M (dR κ [] w [] cs J) w κ M ⟨[],[]⟩ { tmps:=#[],defers:=[] } w:=
   { dfr:=rfl,jst:=hp.jst,pin:=λi hi=>(by cases hi),size:=rfl,regs:=λt v ht=>(by simp at ht),heap:=hp.heap,inj:=hp.inj,snd:=hp.snd,sep:=hp.sep
     sub:=⟨λ_ _ h=>h,hp.fmS,λ_ _ _=>zCe _,zCe _,hp.gl⟩,new:=λ_ _ h=>.inl h,base:=rfl,blw:=Und.refl _ _ }
  exact cz H (λ_ _ h=>h) (λid hid=>by simp_all) hus ‹_›
 refine h M w cs ⟨hp.snd,hp.gl⟩ hus2 o a Nx Q ?_;intro c M' w' h1 h2 h3 h4 h5;refine hN c M' w' ⟨λ_=>undef,λ_ _=>undef,λ_ _=>False,λ_=>none⟩ (aX h1) (Und.of_below h2 (zAd _)) ?_ h4 (λp v hv=>(h5 p v hv).imp_right Or.inl) (λi hi=>by cases hi)
 exact{ heap:=λid ob h=>by simp at h,inj:=λi j oi oj g h=>by simp at h,snd:=h3,sep:=λp v _ id ob h=>by simp at h,fmS:=λ_ _ h=>(by cases h),gl:=hp.gl.mono h4,jst:=hp.jst }
mutual
def rxV:Rx->V
 | .set bs=>.iface BM (.strct (bs.map .bool))
 | .seq l=>.iface BN (.strct [.seq 1 (Ra l)])
 | .alt l=>.iface BP (.strct [.seq 1 (Ra l)])
 | .rep p op=>.iface BO (.strct [(rxV p),.int .u8 op])
def Ra:List Rx->List V
 |[]=>[]
 |p::l=>(rxV p)::Ra l
end
theorem vB:∀l:List Rx,Ra l=l.map rxV
 |[]=>by simp[Ra]
 |p::l=>by simp[Ra,vB l]
def rxP(x:Rx):V:=.sptr (.strct [rxV x]) 0
theorem X6(x):∃t y,rxV x=V.iface t y:=by cases x<;>(simp_all[rxV])
def Fo:Rx:=.set (zAf 95 false)
def ew(c:Nat):List Bool:=(zAf 95 false).set c ť
def ng:List Rx->Rx
 |[p]=>p
 |l=>.seq l
def bw:List Rx->Rx
 |[]=>Fo
 |[p]=>p
 |l=>.alt l
@[simp high] theorem cl_rx (x):cl (rxV x)=[rxV x]:=by obtain⟨t,y,h⟩:=(X6 x);rw[h];rfl
@[simp high] theorem cl_rxp (x):cl (rxP x)=[(rxP x)]:=rfl
@[simp] theorem nt_rx (x):nt (rxV x)=true:=by obtain⟨t,y,h⟩:=(X6 x);rw[h];rfl
@[simp] theorem nt_rxp (x):nt (rxP x)=true:=rfl
mutual
theorem X4:∀(x:Rx)(h:List (Option Ob)),pur h (rxV x)=ś (rxV x)
 | .set bs,h=>by
   simp_all[purs,bool,pur,rxV,Option.map_some]
 | .seq l,h=>by simp[rxV]
 | .alt l,h=>by simp[rxV]
 | .rep p op,h=>by simp[rxV,pur,purs,X4 p h]
end
mutual
theorem Q9:∀(x:Rx),aF (rxV x)=[]
 | .set bs=>by
   simp_all[ax,bool,aF,rxV]
 | .seq l=>by simp[rxV]
 | .alt l=>by simp[rxV]
 | .rep p op=>by simp[rxV,Q9 p]
end
mutual
theorem X3:∀(x:Rx)(m:List Nat),ren m (rxV x)=(rxV x)
 | .set bs,m=>by
   have:∀l:List Bool,fq m (l.map .bool)=l.map .bool:=λl=>by induction l<;>simp[fq,ren, *]
   simp only[rxV,ren,this]
 | .seq l,m=>by simp[rxV]
 | .alt l,m=>by simp[rxV]
 | .rep p op,m=>by simp[rxV,X3 p m]
end
mutual
theorem X5:∀(x:Rx)(m:List Nat),bck m (rxV x)=(rxV x)
 | .set bs,m=>by
   have:∀l:List Bool,so m (l.map .bool)=l.map .bool:=λl=>by induction l<;>simp[so,bck, *]
   simp only[rxV,bck,this]
 | .seq l,m=>by simp[rxV]
 | .alt l,m=>by simp[rxV]
 | .rep p op,m=>by simp[rxV,X5 p m]
end
attribute [simp] X4 Q9 X3 X5
theorem lp(x):∃t y,rxV x=.iface t y/\(∀h,pur h y=ś y)/\aF y=[]/\(∀m,ren m y=y)/\∀m,bck m y=y:=by
 obtain⟨t,y,h⟩:=X6 x;have h1:=λhh=>X4 x hh;have h2:=Q9 x;have h3:=λm=>X3 x m;have h4:=λm=>X5 x m;rw[h]at h1 h2 h3 h4;refine⟨t,y,h,λhh=>?_,h2,λm=>?_,λm=>?_⟩
 ·simp_all
 ·simp_all
 simp_all
@[simp] theorem rxp_pur (x) (h):pur h (rxP x)=ś (rxP x):=rfl
@[simp] theorem rxp_vids (x):aF (rxP x)=[]:=rfl
@[simp] theorem rxp_ren (x) (m):ren m (rxP x)=(rxP x):=rfl
@[simp] theorem rxp_bck (x) (m):bck m (rxP x)=(rxP x):=rfl
theorem K3(c:UInt8):Fn ŷ vX [.int .u8 c.toNat] (.bool (decide (32<=c.toNat)&&decide (c.toNat<=126))):=by
 refine yoA wn ?_;simp
 repeat' (first|(refine BrKd.mk (λh=>?_) (λh=>?_)<;>simp[*])|(refine BrK.mk (λh=>?_) (λh=>?_)<;>simp(disch:=omega) [*]))
theorem K2(c:Nat)(h1:32<=c)(h2:c<=126):Fn ŷ vW [.int .u8 c] (.strct ((ew (c-32)).map .bool)):=by
 refine yoA wm ?_;have e:((c:Int)-32).toNat=c-32:=by omega
 have e2:ju (zAf 95 (V.bool false)) (c-32) [V.bool ť]=ś ((ew (c-32)).map .bool):=by
  unfold ju;rw[if_pos (by simp_all),ew,List.map_set,zCc,List.set_eq_take_append_cons_drop,if_pos (by rw[zBd];omega)]
  simp
 have e3:((ew (c-32)).map V.bool).length=95:=by simp[ew]
 have e4:List.take 95 ((ew (c-32)).map V.bool)=(ew (c-32)).map V.bool:=zAh (by omega)
 have e5:ju (zAf 95 (V.bool false)) 0 ((ew (c-32)).map V.bool)=ś ((ew (c-32)).map .bool):=by
  simp_all
 simp(disch:=omega) [-zAa,e,e2,e3,e4,e5,-ju]
theorem Gx(l)(hl:l.length<=1000000):Fn ŷ Ga [.seq 1 (l.map rxV)] (rxV (ng l)):=by
 refine yoA Gn ?_;rcases l with _|⟨p,_|⟨q,l⟩⟩
 ·simp[ng,rxV,Ra]
 ·simp_all[lp,zAa,ng]
 ·simp(disch:=omega) [ng,rxV,vB]
theorem K4(l)(hl:l.length<=1000000):Fn ŷ vY [.seq 1 (l.map rxV)] (rxV (bw l)):=by
 refine yoA wo ?_;rcases l with _|⟨p,_|⟨q,l⟩⟩
 ·simp_all[purs,zAf,zAa,bw,rxV,Fo,zCc,zs]
 ·simp_all[lp,zAa,bw]
 ·simp(disch:=omega) [bw,rxV,vB]
theorem zA(x):Fn ŷ zg [(rxP x)] (rxV x):=by
 refine yoA zm ?_;obtain⟨t,y,h,h1,h2,h3,h4⟩:=lp x;simp_all[zAa,rxP,St.isNil]
theorem zz(l:List Rx)(hl:l.length<=1000000):Fn ŷ Me [.seq 1 (l.map rxP)] (.seq 1 (l.map rxV)):=by
 refine yoA MV ?_;simp(disch:=omega);refine ah (λk:Nat=>⟨[(3,.ref 0 k),(9,.seq 1 (l.map rxP)),(10,.int .i64 l.length),(11,.int .i64 k)],[ś (.arr qD 1 ((l.take k).map rxV))]⟩) (λk=>k<=l.length) (λk=>l.length-k) [] _ 0 rfl (by simp) (by simp) ?_
 intro k hk N hN;rcases zAi k l.length with hlt|hge
 ·obtain⟨x,hx⟩:=av hlt
  have hkl:((l.take k).map rxV).length=k:=by simp;omega
  simp(disch:=omega) [hx];refine ae (zA x) (by simp) λ_=>?_
  simp(disch:=omega);exact hN.out _<|Nx.mk (k+1) (by simp[bk hx]) (by omega) (by omega)
 ·have:k=l.length:=by omega
  simp_all
def ED(s:Str):Rx:=ng (s.map λc=>.set (ew (c.toNat-32)))
theorem acM(s:Str)(hs:∀c∈s,32<=c.toNat/\c.toNat<=126)(hl:s.length<=1000000):FnH ŷ uc [] [.str s] [] (.ptr 0 0) [ś (.box [(rxV (ED s))])]:=by
 refine yoH Hm ?_;simp(disch:=omega);obtain⟨l,hld⟩:∃l:List Rx,l=s.map λc=>.set (ew (c.toNat-32)):=⟨_,rfl⟩;have hll:l.length=s.length:=by simp[hld]
 refine ah (λk:Nat=>⟨[(0,.str s),(3,.ref 0 k),(4,.int .i64 k)],[ś (.arr qD 1 ((l.take k).map rxV))]⟩) (λk=>k<=s.length) (λk=>s.length-k) [] _ 0 rfl (by simp) (by simp) ?_
 intro k hk N hN;rcases zAi k s.length with hlt|hge
 ·obtain⟨x,hx⟩:=av hlt
  obtain⟨g1,g2⟩:=hs x (zBj hx);have hlx:l[k]?=ś (.set (ew (x.toNat-32))):=by rw[hld,zBa,hx];rfl
  have hkl:((l.take k).map rxV).length=k:=by simp;omega
  simp(disch:=omega) [hx];refine aa (r:=.bool ť) (by have:=K3 x;simp_all) rfl λ_=>?_
  simp[hx];refine aa (K2 x.toNat g1 g2) (by simp) λ_=>?_
  simp(disch:=omega);exact hN.out _<|Nx.mk (k+1) (by simp[bk hlx,rxV]) (by omega) (by omega)
 ·have:k=s.length:=by omega
  subst this;have e:(l.take s.length)=l:=zAh (by omega)
  have hr:=Gx l (by omega)
  simp[e,hll];refine dC hr λ_=>?_;simp_all[zAa,ED]
theorem H3(s:Str)(hs:∀c∈s,32<=c.toNat/\c.toNat<=126)(hl:s.length<=1000000):Fn ŷ uc [.str s] (rxP (ED s)):=
 (acM s hs hl).boxed1 (cs:=[(rxV (ED s))]) (by simp) (by simp)
theorem Bo(l)(hl:l.length<=1000000):Fn ŷ Js [.seq 1 (l.map rxP)] (rxP (bw l)):=by
 have key:FnH ŷ Js [] [.seq 1 (l.map rxP)] [] (.ptr 0 0) [ś (.box [(rxV (bw l))])]:=by
  refine yoH YN ?_;simp;refine ae (zz l hl) (by simp) λ_=>?_
  simp;refine ae (K4 l hl) (by simp) λ_=>?_
  simp
 exact key.boxed1 (cs:=[(rxV (bw l))]) (by simp) (by simp)
theorem TJ(l)(hl:l.length<=1000000):Fn ŷ Cl [.seq 1 (l.map rxP)] (rxP (ng l)):=by
 have key:FnH ŷ Cl [] [.seq 1 (l.map rxP)] [] (.ptr 0 0) [ś (.box [(rxV (ng l))])]:=by
  refine yoH Sf ?_;simp;refine ae (zz l hl) (by simp) λ_=>?_
  simp;refine ae (Gx l hl) (by simp) λ_=>?_
  simp
 exact key.boxed1 (cs:=[(rxV (ng l))]) (by simp) (by simp)
end Go.Abs
end
section
set_option maxHeartbeats 1000000
set_option maxRecDepth 100000
namespace Go.Abs
open Go.Proofs Go.Aut
attribute [-simp] getElem?_pos zCd zDa cl nt
@[simp] def EH (j:Job):V:=.strct [rxV j.p,nV j.fr,nV j.to]
def MK(n:Nat)(E:List NEdge)(W:List Job):List (Option Ob):=[ś (.box [nV n,.ref 1 E.length,.ref 2 W.length]),ś (.arr dk 4 (E.map NEdge.v)),ś (.arr dN 3 (W.map EH))]
theorem gR(n)(E)(W)(x)(fr to)(hW:W.length<=1000000):FnH ŷ g8 [0] [.ptr 0 0,rxV x,nV fr,nV to] (MK n E W) (.tup []) (MK n E (W++[⟨x,fr,to⟩])):=by
 refine yoH hO ?_;obtain⟨t,y,h,h1,h2,h3,h4⟩:=lp x;simp(disch:=omega) [MK]
theorem OW(n)(x)(fr to):FnH ŷ g8 [0] [.ptr 0 0,rxV x,nV fr,nV to] [ś (.box [nV n,.nil 4,.nil 3])] (.tup []) [ś (.box [nV n,.nil 4,.ref 1 1]),ś (.arr dN 3 [EH ⟨x,fr,to⟩])]:=by
 refine yoH hO ?_;simp
theorem lH(n)(E)(W)(hn:n<=1000000):FnH ŷ lS [0] [.ptr 0 0] (MK n E W) (nV n) (MK (n+1) E W):=by
 refine yoH l4 ?_;simp(disch:=omega) [MK]
theorem fg(n)(E)(W)(fr to)(hE:E.length<=1000000):FnH ŷ mU [0] [.ptr 0 0,nV fr,nV to] (MK n E W) (.tup []) (MK n (E++[Aut.fre fr to]) W):=by
 refine yoH mX ?_;simp(disch:=omega) [MK,Aut.fre]
theorem acW(bs)(hb:bs.length=95)(i)(hi:i<95):FnH ŷ rJ [0] [.ptr 0 0,nV i] [ś (.box (bs.map .bool))] (nV (uU bs 95 i)) [ś (.box (bs.map .bool))]:=by
 refine yoH rQ ?_;simp;obtain⟨R,hR⟩:∃R,R=uU bs 95 i:=⟨_,rfl⟩;rw[<-hR];refine ah (λ(x:Nat×Nat)=>⟨[(0,.ptr 0 0),(1,nV x.2)],[ś (.box (bs.map .bool))]⟩) (λx=>x.2<95/\95<=x.1+x.2/\uU bs x.1 x.2=R) (λx=>x.1) [] _ (95,i) rfl (by simp) ⟨hi,by simp,by simp[hR]⟩ ?_
 rintro⟨f,k⟩ ⟨hk,hf,hr⟩ N hN;simp only at hk hf hr;obtain⟨f,rfl⟩:∃g,f=g+1:=⟨f-1,by omega⟩
 simp only[uU]at hr;rcases zAi (k+1) 95 with h1|h1
 ·obtain⟨b,hb1⟩:=av (l:=bs) (k:=k+1) (by omega)
  have e1:((k:Int)+1).toNat=k+1:=by omega
  have e0:cut (bs.map V.bool) (k+1) 1=ś [.bool b]:=by
   unfold cut;have hd:=zBf (l:=bs.map V.bool) (i:=k+1) (by simp;omega)
   grind
  cases b with
  |true=>
    rw[if_pos ⟨h1,hb1⟩]at hr;simp(disch:=omega) [e0,-cut];exact hN.out _<|Nx.mk (f,k+1) (by simp) ⟨by simp only;omega,by simp only;omega,hr⟩ (by simp only;omega)
  |false=>
    rw[if_neg (by rw[hb1];simp)]at hr
    subst hr;simp(disch:=omega) [e0,-cut]
 ·rw[if_neg (by omega)]at hr
  subst hr;simp(disch:=omega)
theorem acX(bs)(hb:bs.length=95)(n fr to)(E)(W)(hE:E.length<=1000000):
 FnH ŷ t7 [1] [.strct (bs.map .bool),.ptr 0 0,nV fr,nV to] (MK n E W) (.tup []) (MK n (E++ah1 bs fr to) W):=by
 refine yoH uh ?_;obtain⟨R,hR⟩:∃R,R=E++ah1 bs fr to:=⟨_,rfl⟩;rw[<-hR];simp[MK]
 refine ah (λ(x:Nat×Nat×List NEdge)=>⟨[(1,.ptr 0 0),(2,nV fr),(3,nV to),(4,.ptr 1 0),(8,nV x.2.1)],[ś (.box [nV n,.ref 2 x.2.2.length,.ref 3 W.length]),ś (.box (bs.map .bool)),ś (.arr dk 4 (x.2.2.map NEdge.v)),ś (.arr dN 3 (W.map EH))]⟩)
  (λx=>x.2.1<=95/\95<=x.1+x.2.1/\x.2.2.length<=1000000+x.2.1/\x.2.2++pU bs fr to x.1 x.2.1=R) (λx=>95-x.2.1) [] _ (95,0,E) rfl (by simp) ⟨by simp,by simp,by simp only;omega,by simp[hR,ah1]⟩ ?_
 rintro⟨f,k,E1⟩ ⟨hk,hf,hl,hr⟩ N hN;simp only at hk hf hl hr;rcases zAi k 95 with h1|h1
 ·obtain⟨f,rfl⟩:∃g,f=g+1:=⟨f-1,by omega⟩
  simp only[pU,if_pos h1]at hr;obtain⟨b,hb1⟩:=av (l:=bs) (k:=k) (by omega)
  have e0:cut (bs.map V.bool) k 1=ś [.bool b]:=by
   unfold cut;have hd:=zBf (l:=bs.map V.bool) (i:=k) (by simp;omega)
   grind
  cases b with
  |true=>
    rw[if_pos hb1]at hr;obtain⟨g1,g2,_⟩:=Em bs 95 k h1 hb1;have e1:((32:Int)+(uU bs 95 k:Nat)).toNat=32+uU bs 95 k:=by omega
    simp(disch:=omega) [e0,-cut];refine am [0] 1 [1] (by simp) (by simp) (by simp) (by simp) (acW bs hb k h1) (by simp) λ_ _=>?_
    generalize hq:uU bs 95 k=q at *;simp(disch:=omega);exact hN.out _<|Nx.mk (f,q+1,E1++[⟨fr,to,32+k,32+q⟩]) (by simp) ⟨by simp only;omega,by simp only;omega,by simp;omega,by simpa using hr⟩ (by simp only;omega)
  |false=>
    rw[if_neg (by rw[hb1];simp)]at hr
    simp(disch:=omega) [e0,-cut];exact hN.out _<|Nx.mk (f,k+1,E1) (by simp) ⟨by simp only;omega,by simp only;omega,by simp only;omega,hr⟩ (by simp only;omega)
 ·have:k=95:=by omega
  subst this;have:pU bs fr to f 95=[]:=by cases f<;>simp[pU]
  simp_all
theorem acY(l)(hl:l.length<=100000)(n fr to)(E)(W)(hn:n<=100000)(hE:E.length<=1000000)(hW:W.length<=500000):
 FnH ŷ t8 [1] [.strct [.seq 1 (l.map rxV)],.ptr 0 0,nV fr,nV to] (MK n E W) (.tup []) (MK (bT ⟨.seq l,fr,to⟩ n).1 (E++(bT ⟨.seq l,fr,to⟩ n).2.1) (W++(bT ⟨.seq l,fr,to⟩ n).2.2)):=by
 refine yoH ui ?_;cases l with
 |nil=>
   simp only[bT,zAb];simp[MK];refine am [0] 1 [0,1,2] (by simp) (by simp) (by simp) (by simp[MK]) (fg n E W fr to hE) (by simp[MK]) λ_ _=>?_
   simp_all[zAa,MK,Aut.fre,NEdge.v]
 |cons p l=>
   have hl2:l.length<=99999:=by simp_all
   clear hl;simp only[bT,zAb];obtain⟨R,hR⟩:∃R,R=W++oA to p l fr n:=⟨_,rfl⟩;rw[<-hR];obtain⟨ps,hps⟩:∃ps,ps=p::l:=⟨_,rfl⟩;have hpl:ps.length=l.length+1:=by simp[hps]
   rw[<-hps];have htk:(ps.take l.length).map rxV=(ps.map rxV).take l.length:=by rw[zCh]
   have hv:dx .sub .i64 ((l.length:Int)+1) 1=ś (.int .i64 l.length):=by simp(disch:=omega)
   simp(disch:=omega) [MK,hpl]
   have hjl:∀(l:List Rx)(p:Rx)(fr n:Nat),(oA to p l fr n).length=l.length+1:=λl=>by
    induction l with
    |nil=>grind[oA]
    |cons q l ih=>grind[oA]
   have hRl:R.length=W.length+(l.length+1):=by rw[hR];simp[hjl]
   refine ah (λ(x:Nat×Nat×List Job)=>⟨[(1,.ptr 0 0),(2,nV x.2.1),(3,nV to),(4,.ptr 1 0),(8,nV l.length),(27,.seq 1 ((ps.map rxV).take l.length)),(28,nV l.length),(29,nV x.1)],
    [ś (.box [nV (n+x.1),.ref 2 E.length,.ref 3 x.2.2.length]),ś (.box [.seq 1 (ps.map rxV)]),ś (.arr dk 4 (E.map NEdge.v)),ś (.arr dN 3 (x.2.2.map EH))]⟩)
    (λx=>x.1<=l.length/\∃a rest,ps.drop x.1=a::rest/\x.2.2++oA to a rest x.2.1 (n+x.1)=R) (λx=>l.length-x.1) [] _ (0,fr,W) rfl (by simp) ⟨by simp,p,l,by simp[hps],by simp[hR]⟩ ?_
   rintro⟨k,f,W1⟩ ⟨hk,a,rest,hd,hr⟩ N hN;simp only at hk hd hr;have hdl:=congrArg List.length hd;simp[hpl]at hdl
   have hpa:ps[k]?=ś a:=by
    have:=congrArg (·[0]?) hd;grind
   have hpt:((ps.map rxV).take l.length)[k]?=if k<l.length then ś (rxV a)else none:=by
    grind
   have hWl:W1.length<=R.length:=by rw[<-hr];simp
   have hWl2:W1.length<=700000:=by omega
   clear hWl;obtain⟨t,y,h,h1,h2,h3,h4⟩:=lp a;rcases zAi k l.length with hlt|hge
   ·obtain⟨b,rest2,rfl⟩:∃b rest2,rest=b::rest2:=by
     cases rest with
     |nil=>simp at hdl;omega
     |cons b r=>exact⟨b,r,rfl⟩
    have hd2:ps.drop (k+1)=b::rest2:=by
     have:=congrArg List.tail hd;grind[List.tail_drop]
    simp only[oA]at hr;rw[if_pos hlt]at hpt;simp(disch:=omega) [hpt];refine am [0] 1 [0,2,3] (by simp) (by simp) (by simp) (by simp[MK]) (lH (n+k) E W1 (by omega)) (by simp[MK]) λ_ _=>?_
    simp[MK];refine am [0] 1 [0,4,5] (by simp) (by simp) (by simp) (by simp[MK]) (gR (n+k+1) E W1 a f (n+k) (by omega)) (by simp[MK]) λ_ _=>?_
    simp(disch:=omega) [MK];exact hN.out _<|Nx.mk (k+1,n+k,W1++[⟨a,f,n+k⟩]) (by simp;omega) ⟨by simp only;omega,b,rest2,hd2,by simpa[zCi]using hr⟩ (by simp only;omega)
   ·have hkk:k=l.length:=by omega
    subst hkk
    have:rest=[]:=by
     simp_all
    subst this;simp only[oA]at hr;subst hr;simp[hpa];refine am [0] 1 [0,2,3] (by simp) (by simp) (by simp) (by simp[MK]) (gR (n+l.length) E W1 a f to (by omega)) (by simp[MK]) λ_ _=>?_
    simp[MK]
theorem ac5(l:List Rx)(hl:l.length<=100000)(n fr to)(E)(W)(hW:W.length<=500000):
 FnH ŷ ub [1] [.strct [.seq 1 (l.map rxV)],.ptr 0 0,nV fr,nV to] (MK n E W) (.tup []) (MK n E (W++l.map λp=>⟨p,fr,to⟩)):=by
 refine yoH uk ?_;obtain⟨ps,hps⟩:∃ps:List Job,ps=l.map λp=>⟨p,fr,to⟩:=⟨_,rfl⟩;rw[<-hps];have hpl:ps.length=l.length:=by simp[hps]
 simp[MK]
 refine ah (λ(k:Nat)=>⟨[(1,.ptr 0 0),(2,nV fr),(3,nV to),(11,.seq 1 (l.map rxV)),(12,nV l.length),(13,nV k)],
  [ś (.box [nV n,.ref 1 E.length,.ref 2 (W++ps.take k).length]),ś (.arr dk 4 (E.map NEdge.v)),ś (.arr dN 3 ((W++ps.take k).map EH))]⟩)
  (λk=>k<=l.length) (λk=>l.length-k) [] _ 0 rfl (by simp) (by simp) ?_
 intro k hk N hN;rcases zAi k l.length with hlt|hge
 ·obtain⟨a,ha⟩:=av hlt
  have hpa:ps[k]?=ś ⟨a,fr,to⟩:=by rw[hps,zBa,ha];rfl
  obtain⟨t,y,h,h1,h2,h3,h4⟩:=lp a;have hwl:(W++ps.take k).length<=1000000:=by simp;omega
  have e:W++ps.take (k+1)=(W++ps.take k)++[⟨a,fr,to⟩]:=by rw[bk hpa,zAg]
  generalize W++ps.take k=W1 at *;simp(disch:=omega) [ha];refine am [0] 1 [0,1,2] (by simp) (by simp) (by simp) (by simp[MK]) (gR n E W1 a fr to hwl) (by simp[MK]) λ_ _=>?_
  simp(disch:=omega) [MK];exact hN.out _<|Nx.mk (k+1) (by simp[e]) (by omega) (by omega)
 simp_all[zAh,zAa]
theorem ac0(p)(op:Nat)(n fr to)(E)(W)(hn:n<=100000)(hE:E.length<=500000)(hW:W.length<=500000):
 FnH ŷ ua [1] [.strct [rxV p,.int .u8 op],.ptr 0 0,nV fr,nV to] (MK n E W) (.tup []) (MK (bT ⟨.rep p op,fr,to⟩ n).1 (E++(bT ⟨.rep p op,fr,to⟩ n).2.1) (W++(bT ⟨.rep p op,fr,to⟩ n).2.2)):=by
 refine yoH uj ?_;obtain⟨t,y,h,h1,h2,h3,h4⟩:=lp p;by_cases h63:op=63
 ·subst h63
  simp only[bT,if_true];simp[MK];refine am [0] 1 [0,1,2] (by simp) (by simp) (by simp) (by simp[MK]) (fg n E W fr to (by omega)) (by simp[MK]) λ_ _=>?_
  simp[MK];refine am [0] 1 [0,4,5] (by simp) (by simp) (by simp) (by simp[MK]) (gR n (E++[Aut.fre fr to]) W p fr to (by omega)) (by simp[MK]) λ_ _=>?_
  simp[MK]
 ·by_cases h42:op=42
  ·subst h42
   simp only[bT,if_true,if_neg (show ¬(42:Nat)=63 by omega)]
   simp[MK];refine am [0] 1 [0,1,2] (by simp) (by simp) (by simp) (by simp[MK]) (lH n E W (by omega)) (by simp[MK]) λ_ _=>?_
   simp[MK];refine am [0] 1 [0,4,5] (by simp) (by simp) (by simp) (by simp[MK]) (fg (n+1) E W fr n (by omega)) (by simp[MK]) λ_ _=>?_
   simp[MK];refine am [0] 1 [0,6,7] (by simp) (by simp) (by simp) (by simp[MK]) (gR (n+1) (E++[Aut.fre fr n]) W p n n (by omega)) (by simp[MK]) λ_ _=>?_
   simp[MK];refine am [0] 1 [0,8,9] (by simp) (by simp) (by simp) (by simp[MK]) (fg (n+1) (E++[Aut.fre fr n]) (W++[⟨p,n,n⟩]) n to (by simp;omega)) (by simp[MK]) λ_ _=>?_
   simp[MK]
  ·simp only[bT,if_neg h63,if_neg h42]
   have z63:¬((op:Int)=63):=by omega
   have z42:¬((op:Int)=42):=by omega
   simp[MK,z63,z42];refine am [0] 1 [0,1,2] (by simp) (by simp) (by simp) (by simp[MK]) (lH n E W (by omega)) (by simp[MK]) λ_ _=>?_
   simp[MK];refine am [0] 1 [0,4,5] (by simp) (by simp) (by simp) (by simp[MK]) (lH (n+1) E W (by omega)) (by simp[MK]) λ_ _=>?_
   simp[MK];refine am [0] 1 [0,6,7] (by simp) (by simp) (by simp) (by simp[MK]) (fg (n+1+1) E W fr n (by omega)) (by simp[MK]) λ_ _=>?_
   simp[MK];refine am [0] 1 [0,8,9] (by simp) (by simp) (by simp) (by simp[MK]) (gR (n+1+1) (E++[Aut.fre fr n]) W p n (n+1) (by omega)) (by simp[MK]) λ_ _=>?_
   simp[MK];refine am [0] 1 [0,10,11] (by simp) (by simp) (by simp) (by simp[MK]) (fg (n+1+1) (E++[Aut.fre fr n]) (W++[⟨p,n,n+1⟩]) (n+1) n (by simp;omega)) (by simp[MK]) λ_ _=>?_
   simp[MK];refine am [0] 1 [0,12,13] (by simp) (by simp) (by simp) (by simp[MK]) (fg (n+1+1) (E++[Aut.fre fr n]++[Aut.fre (n+1) n]) (W++[⟨p,n,n+1⟩]) (n+1) to (by simp;omega)) (by simp[MK]) λ_ _=>?_
   simp[MK];omega
theorem Pq(x):1<=cC x:=by cases x<;>simp only[cC]<;>omega
theorem AE:∀l:List Rx,l.length<=cT l
 |[]=>by simp
 |p::l=>by have h1:=Pq p;have h2:=AE l;simp only[cT,zBg];omega
theorem Pa:∀l:List Job,l.length<=cn l
 |[]=>by simp
 |p::l=>by have h1:=Pq p.p;have h2:=Pa l;simp only[cn,zBg];omega
theorem wtrc{Φ d x hi sz id n k b e l K}{σ:St}(hx:σ.ev x=ś (.ref id n))(hb:σ.ev hi=ś (.int k b))(ha:σ.arr? id=ś (e,sz,l))(hn:n=l.length)(h0:0<=b)(hbn:b<=n)
 (h:K (St.put { σ with h:=σ.h.set id none++[ś (Ob.arr e sz (l.take b.toNat))] } d (.ref σ.h.length b.toNat))):ak Φ d (.trc x hi sz) K σ:=by
 simp_all[ak,trivial]
theorem ajv(x)(N0)(hx:wfR x=ť)(hN0:PO x=ś N0)(hs:cC x<=2000)(hfr:fresh x<=2000):Fn ŷ dE [rxP x] (.strct (Net.c N0)):=by
 refine yoE oW ?_;obtain⟨C,hC⟩:∃C:List V,C=Net.c N0:=⟨_,rfl⟩;rw[<-hC];simp only[PO,zBi]at hN0;obtain⟨⟨n1,E1⟩,hgo,hN1⟩:=hN0;simp only at hN1;obtain⟨t,y,h,h1,h2,h3,h4⟩:=lp x;simp;refine am [] 0 [] (by simp) (by simp) (by simp) (by simp) ((zA x).toH (by simp) (by simp)) (by simp) λ_ _=>?_
 simp;refine am [0] 1 [1] (by simp) (by simp) (by simp) (by simp) (OW 2 x 0 1) (by simp) λ_ _=>?_
 simp
 refine ah (λ(x:Nat×Nat×List NEdge×List Job)=>⟨[(2,.ptr 0 0),(3,.ptr 1 0)],[ś (.box [nV 0,nV 0,nV 0,.nil 4]),ś (.box [nV x.2.1,.ref 2 x.2.2.1.length,.ref 3 x.2.2.2.length]),ś (.arr dk 4 (x.2.2.1.map NEdge.v)),ś (.arr dN 3 (x.2.2.2.map EH))]⟩)
  (λx=>zf x.1 x.2.1 x.2.2.1 x.2.2.2=ś (n1,E1)/\x.2.1+bM x.2.2.2<=2002/\x.2.2.1.length+95*cn x.2.2.2<=190000/\∀j∈x.2.2.2,wfR j.p=ť) (λx=>x.1) [.b 1 1 dk 4] _ (cC x+1,2,[],[⟨x,0,1⟩]) rfl (by simp) ⟨hgo,by simp[bM];omega,by simp[cn];omega,λj hj=>by simp_all⟩ ?_
 rintro⟨f,n,E,W⟩ ⟨hg,hf1,hf2,hw⟩ N hN;simp only at hg hf1 hf2 hw;cases f with
 |zero=>simp[zf]at hg
 |succ f=>
   have hwl:=Pa W;simp only[zf]at hg;cases hl:W.getLast? with
   |none=>
     have:W=[]:=by simpa using hl
     subst this;rw[hl]at hg;simp only[zDb,zCj]at hg;obtain⟨rfl,rfl⟩:=hg;clear hN;simp;simp[hC,<-hN1]
   |some j=>
     have e:=C0 hl;rw[hl]at hg;simp only at hg;obtain⟨W0,hW0⟩:∃W0,W0=W.dropLast:=⟨_,rfl⟩;rw[<-hW0]at e hg;clear hW0 hl;subst e;obtain⟨s1,s2,s3⟩:=Qv j n;have hz:cn (W0++[j])=cn W0+cC j.p:=by rw[jn];simp[cn]
     have hz2:cn (W0++(bT j n).2.2)=cn W0+cn (bT j n).2.2:=jn _ _;have hz3:bM (W0++[j])=bM W0+fresh j.p:=by rw[ij];simp[bM]
     have hz4:bM (W0++(bT j n).2.2)=bM W0+bM (bT j n).2.2:=ij _ _;have hjm:((W0++[j]).map EH)[W0.length]?=ś (EH j):=by grind
     have htk:((W0++[j]).map EH).take W0.length=W0.map EH:=by simp
     have hln:(W0++[j]).length=W0.length+1:=by simp
     have hv:dx .sub .i64 ((W0.length:Int)+1) 1=ś (.int .i64 W0.length):=by simp(disch:=omega)
     have fin:∀τ:St,τ.nrm [2,3]=⟨[(2,.ptr 0 0),(3,.ptr 1 0)],[ś (.box [nV 0,nV 0,nV 0,.nil 4]),ś (.box [nV (bT j n).1,.ref 2 (E++(bT j n).2.1).length,.ref 3 (W0++(bT j n).2.2).length]),ś (.arr dk 4 ((E++(bT j n).2.1).map NEdge.v)),ś (.arr dN 3 ((W0++(bT j n).2.2).map EH))]⟩->N τ:=by
      intro τ hτ;refine hN.out τ<|Nx.mk (f,(bT j n).1,E++(bT j n).2.1,W0++(bT j n).2.2) hτ ⟨hg,by simp only;omega,by grind,λk hk=>?_⟩ (by simp only;omega)
      grind[aa5]
     have hwj:=hw j (by simp)
     replace fin:=hid fin;have hEl:E.length<=190000:=by omega
     have hWl:W0.length<=10000:=by rw[hln]at hwl;omega
     have hnl:n<=2002:=by omega
     have hsj:cC j.p<=2000:=by omega
     clear hN s1 s2 s3 hz hz2 hz3 hz4 hw hg hf1 hf2 hwl;obtain⟨p,fr,to⟩:=j;obtain⟨t,y,h,h1,h2,h3,h4⟩:=lp p;generalize hWW:W0++[(⟨p,fr,to⟩:Job)]=WW at *;simp(disch:=omega) [hjm,hln];refine wtrc (id:=3) (n:=W0.length+1) (b:=(W0.length:Int)) (l:=WW.map EH) rfl rfl rfl (by simp[hln]) (by omega) (by omega) ?_
     simp[htk];cases p with
     |set bs=>
       simp only[wfR,decide_eq_true_eq]at hwj;simp only[bT,zAb]at fin;simp[rxV];refine am [1] 1 [1,2,5] (by simp) (by simp) (by simp) (by simp[MK]) (acX bs hwj n fr to E W0 (by omega)) (by simp[MK]) λ_ _=>?_
       simp[MK];exact fin.out _ (by simp)
     |seq l=>
       have hll:=AE l;simp only[cC]at hsj;have hvs:=vB l;simp[rxV,hvs];refine am [1] 1 [1,2,5] (by simp) (by simp) (by simp) (by simp[MK]) (acY l (by omega) n fr to E W0 (by omega) (by omega) (by omega)) (by simp[MK]) λ_ _=>?_
       simp[MK];exact fin.out _ (by simp)
     |alt l=>
       have hll:=AE l;simp only[cC]at hsj;have hvs:=vB l;simp only[bT,zAb]at fin;simp[rxV,hvs];refine am [1] 1 [1,2,5] (by simp) (by simp) (by simp) (by simp[MK]) (ac5 l (by omega) n fr to E W0 (by omega)) (by simp[MK]) λ_ _=>?_
       simp[MK];exact fin.out _ (by simp)
     |rep p op=>
       simp[rxV];refine am [1] 1 [1,2,5] (by simp) (by simp) (by simp) (by simp[MK]) (ac0 p op n fr to E W0 (by omega) (by omega) (by omega)) (by simp[MK]) λ_ _=>?_
       simp[MK];exact fin.out _ (by simp)
def adw:List Bool:=zAf 95 ť
def aff(c:Nat):List Bool:=adw.set c false
def digS:List Bool:=zAf 16 false++zAf 10 ť++zAf 69 false
def rx0:Rx:=.rep (.set (ew 65)) 42
def rx1:Rx:=.rep (.alt [(.set (ew 65)),(.set (ew 66))]) 43
def rx2:Rx:=.rep (.set digS) 43
def rx3:Rx:=.seq [(.set (ew 88)),.set adw,(.set (ew 89))]
def rx4:Rx:=.rep (.set (aff 65)) 42
def rx5:Rx:=.seq []
def rx6:Rx:=.alt [(.set (ew 65)),.seq [(.set (ew 66)),(.set (ew 66))],(.set (ew 67))]
def rx7:Rx:=.rep (.set adw) 42
def rx8:Rx:=.rep (.set (aff 26)) 42
def er:List (Str×Rx):=[([97,42],rx0),([40,97,124,98,41,43],rx1),([91,48,45,57,93,43],rx2),([120,46,121],rx3),([91,94,97,93,42],rx4),([],rx5),([97,124,98,98,124,99],rx6),([46,42],rx7),([91,94,58,93,42],rx8)]
theorem akv:(yz IN 300 16).h aM [.str [97,42]] []=ś (.tup [.ptr 0 0,.int .i64 0],[ś (.box [(rxV rx0)])]):=by kernel_rfl
theorem Zv:Fn ŷ aM [.str [97,42]] (.tup [rxP rx0,.int .i64 0]):=
 ((eR mixed nf 300 16).h _ _ _ _ _ _ (by kernel_rfl) akv).boxed2 (cs':=[rxV rx0]) (by simp) rfl (by kernel_rfl)
theorem aku:(yz IN 300 16).h aM [.str [40,97,124,98,41,43]] []=ś (.tup [.ptr 0 0,.int .i64 0],[ś (.box [(rxV rx1)])]):=by kernel_rfl
theorem Zu:Fn ŷ aM [.str [40,97,124,98,41,43]] (.tup [rxP rx1,.int .i64 0]):=
 ((eR mixed nf 300 16).h _ _ _ _ _ _ (by kernel_rfl) aku).boxed2 (cs':=[rxV rx1]) (by simp) rfl (by kernel_rfl)
theorem akt:(yz IN 300 16).h aM [.str [91,48,45,57,93,43]] []=ś (.tup [.ptr 0 0,.int .i64 0],[ś (.box [(rxV rx2)])]):=by kernel_rfl
theorem Zt:Fn ŷ aM [.str [91,48,45,57,93,43]] (.tup [rxP rx2,.int .i64 0]):=
 ((eR mixed nf 300 16).h _ _ _ _ _ _ (by kernel_rfl) akt).boxed2 (cs':=[rxV rx2]) (by simp) rfl (by kernel_rfl)
theorem aks:(yz IN 300 16).h aM [.str [120,46,121]] []=ś (.tup [.ptr 0 0,.int .i64 0],[ś (.box [(rxV rx3)])]):=by kernel_rfl
theorem Zs:Fn ŷ aM [.str [120,46,121]] (.tup [rxP rx3,.int .i64 0]):=
 ((eR mixed nf 300 16).h _ _ _ _ _ _ (by kernel_rfl) aks).boxed2 (cs':=[rxV rx3]) (by simp) rfl (by kernel_rfl)
theorem akr:(yz IN 300 16).h aM [.str [91,94,97,93,42]] []=ś (.tup [.ptr 0 0,.int .i64 0],[ś (.box [(rxV rx4)])]):=by kernel_rfl
theorem Zr:Fn ŷ aM [.str [91,94,97,93,42]] (.tup [rxP rx4,.int .i64 0]):=
 ((eR mixed nf 300 16).h _ _ _ _ _ _ (by kernel_rfl) akr).boxed2 (cs':=[rxV rx4]) (by simp) rfl (by kernel_rfl)
theorem akq:(yz IN 300 16).h aM [.str []] []=ś (.tup [.ptr 0 0,.int .i64 0],[ś (.box [(rxV rx5)])]):=by kernel_rfl
theorem Zq:Fn ŷ aM [.str []] (.tup [rxP rx5,.int .i64 0]):=
 ((eR mixed nf 300 16).h _ _ _ _ _ _ (by kernel_rfl) akq).boxed2 (cs':=[rxV rx5]) (by simp) rfl (by kernel_rfl)
theorem akp:(yz IN 300 16).h aM [.str [97,124,98,98,124,99]] []=ś (.tup [.ptr 0 0,.int .i64 0],[ś (.box [(rxV rx6)])]):=by kernel_rfl
theorem Zp:Fn ŷ aM [.str [97,124,98,98,124,99]] (.tup [rxP rx6,.int .i64 0]):=
 ((eR mixed nf 300 16).h _ _ _ _ _ _ (by kernel_rfl) akp).boxed2 (cs':=[rxV rx6]) (by simp) rfl (by kernel_rfl)
theorem ako:(yz IN 300 16).h aM [.str [46,42]] []=ś (.tup [.ptr 0 0,.int .i64 0],[ś (.box [(rxV rx7)])]):=by kernel_rfl
theorem Zo:Fn ŷ aM [.str [46,42]] (.tup [rxP rx7,.int .i64 0]):=
 ((eR mixed nf 300 16).h _ _ _ _ _ _ (by kernel_rfl) ako).boxed2 (cs':=[rxV rx7]) (by simp) rfl (by kernel_rfl)
theorem akn:(yz IN 300 16).h aM [.str [91,94,58,93,42]] []=ś (.tup [.ptr 0 0,.int .i64 0],[ś (.box [(rxV rx8)])]):=by kernel_rfl
theorem Zn:Fn ŷ aM [.str [91,94,58,93,42]] (.tup [rxP rx8,.int .i64 0]):=
 ((eR mixed nf 300 16).h _ _ _ _ _ _ (by kernel_rfl) akn).boxed2 (cs':=[rxV rx8]) (by simp) rfl (by kernel_rfl)
theorem TZ{s x}(h:(s,x)∈er):Fn ŷ aM [.str s] (.tup [rxP x,.int .i64 0]):=by
 simp only[er,zBe,zCj,List.not_mem_nil,or_false]at h;rcases h with⟨rfl,rfl⟩|⟨rfl,rfl⟩|⟨rfl,rfl⟩|⟨rfl,rfl⟩|⟨rfl,rfl⟩|⟨rfl,rfl⟩|⟨rfl,rfl⟩|⟨rfl,rfl⟩|⟨rfl,rfl⟩
 ·exact Zv
 ·exact Zu
 ·exact Zt
 ·exact Zs
 ·exact Zr
 ·exact Zq
 ·exact Zp
 ·exact Zo
 ·exact Zn
theorem q9{s x}(h:(s,x)∈er):Fn ŷ MJ [.str s] (rxP x):=by
 refine yoA Ny ?_;simp;refine ae (TZ h) (by simp) λ_=>?_
 simp
theorem Le(c)(hc:pur [] c=ś c)(hv:aF c=[])(hn:nt c=ť):Fn ŷ mF [c] (rxP rx7):=by
 refine yoA Hv ?_;simp[hn];refine ae (q9 (s:=[46,42]) (x:=rx7) (by simp[er])) (by simp) λ_=>?_
 simp
def oS(e:Str)(w:Str):Rx:=ED (w++e)
theorem ux(l:List Str)(e)(hl:l.length<=1000)(he:e.length<=1000)(hs:∀w∈l,(∀c∈w++e,32<=c.toNat/\c.toNat<=126)/\w.length<=1000):Fn ŷ Hg [.seq 1 (l.map .str),.str e] (.seq 1 ((l.map (oS e)).map rxP)):=by
 refine yoA Hu ?_;obtain⟨R,hR⟩:∃R,R=l.map (oS e):=⟨_,rfl⟩;have hRl:R.length=l.length:=by simp[hR]
 rw[<-hR];simp;refine ah (λk:Nat=>⟨[(1,.str e),(5,.ref 0 k),(8,.seq 1 (l.map .str)),(9,.int .i64 l.length),(10,.int .i64 k)],[ś (.arr mB 1 ((R.take k).map rxP))]⟩) (λk=>k<=l.length) (λk=>l.length-k) [.r 5 mB 1] _ 0 rfl (by simp) (by simp) ?_
 intro k hk N hN;rcases zAi k l.length with hlt|hge
 ·obtain⟨w,hw⟩:=av hlt
  obtain⟨g1,g2⟩:=hs w (zBj hw);have hRk:R[k]?=ś (oS e w):=by rw[hR,zBa,hw];rfl
  have hkl:((R.take k).map rxP).length=k:=by simp;omega
  simp(disch:=omega) [hw];refine ae (H3 (w++e) g1 (by simp;omega)) (by simp) λ_=>?_
  simp(disch:=omega);exact hN.out _<|Nx.mk (k+1) (by simp[bk hRk,oS]) (by omega) (by omega)
 ·have:k=l.length:=by omega
  simp_all[zAh,zAa]
def cV3(k:Int)(ws:List Str)(rx:Str):V:=.strct [.int .i64 k,.seq 1 (ws.map .str),.str rx]
theorem WZ(k)(ws)(rx)(hl:ws.length<=1000)(hs:∀w∈ws,(∀c∈w,32<=c.toNat/\c.toNat<=126)/\w.length<=1000):Fn ŷ kS [cV3 k ws rx] (rxP (bw (ws.map (oS [])))):=by
 refine yoA EM ?_;simp[cV3];refine ae (ux ws [] hl (by simp) (by simpa using hs)) (by simp) λ_=>?_
 simp;refine ae (Bo (ws.map (oS [])) (by simp;omega)) (by simp) λ_=>?_
 simp
def Q6(ws:List Str):Rx:=bw [rx8,ng [bw (ws.map (oS [58])),rx7]]
theorem OX(k)(ws)(rx)(hl:ws.length<=1000)(hs:∀w∈ws,(∀c∈w,32<=c.toNat/\c.toNat<=126)/\w.length<=900):Fn ŷ iM [cV3 k ws rx] (rxP (Q6 ws)):=by
 refine yoA A3 ?_;obtain⟨R,hR⟩:∃R,R=Q6 ws:=⟨_,rfl⟩;rw[<-hR];simp[cV3]
 refine ae (ux ws [58] hl (by simp) (λw hw=>by
  obtain⟨g1,g2⟩:=hs w hw;refine⟨λc hc=>?_,by omega⟩
  rcases zAc.1 hc with h|h
  ·exact g1 c h
  simp_all)) (by simp) λ_=>?_
 simp;refine ae (Bo (ws.map (oS [58])) (by simp;omega)) (by simp) λ_=>?_
 obtain⟨S,hS⟩:∃S,S=bw (ws.map (oS [58])):=⟨_,rfl⟩;have hR2:R=bw [rx8,ng [S,rx7]]:=by rw[hR,hS];rfl
 rw[<-hS];clear hS hR;have k1:=q9 (s:=[91,94,58,93,42]) (x:=rx8) (by simp[er])
 have k2:=Le (cV3 k ws rx) (by simp[cV3]) (by simp[cV3]) rfl
 have k3:=TJ [S,rx7] (by simp)
 have k4:=Bo [rx8,ng [S,rx7]] (by simp)
 simp[cV3]at k2;simp at k3 k4;simp;refine az k1 (by simp) ?_
 simp;refine az k2 (by simp) ?_
 simp;refine az k3 (by simp) ?_
 simp;refine az k4 (by simp) ?_
 simp[hR2]
theorem T5(k)(ws)(rx){x}(h:(rx,x)∈er):Fn ŷ jC [cV3 k ws rx] (rxP x):=by
 refine yoA CK ?_;simp[cV3];refine ae (q9 h) (by simp) λ_=>?_
 simp
def s9:List (V×V):=[(.int .i64 1,.fn (.func mF) [] []),(.int .i64 2,.fn (.func kS) [] []),(.int .i64 3,.fn (.func iM) [] []),(.int .i64 4,.fn (.func jC) [] [])]
theorem afP:FnH ŷ ML [] [] [] (.ref 0 0) [ś (.mp ⟨false,[.i .i64]⟩ s9)]:=by
 refine yoH Nz ?_;simp_all[zAa,s9,nq,eqK,pm,eqC]
theorem OY(s:Str):Fn ŷ zj [.str s] (.bool (s.all F.sign&&decide (s.length<=40))):=by
 refine yoA NA ?_;simp;refine BrKd.mk (λh=>?_) (λh=>?_)
 ·simp[h]
  refine aa (F.f_lang_isValue s) rfl λ_=>?_;simp
 simp_all
theorem H9(s:Str):Fn ŷ ue [.str s] (.bool (F.scheme s)):=by
 refine yoB Hw λho=>?_;simp only[oks,ok,and_true]at ho;simp;generalize hr:F.scheme s=r;refine ah (λk:Nat=>⟨[(0,.str s),(3,.int .i64 k)],[]⟩) (λk=>k<=s.length/\((s.drop k).all F.small&&(1<=s.length&&s.length<=16))=r) (λk=>s.length-k) [] _ 0 rfl (by simp) (by simp[<-hr,F.scheme]) ?_
 rintro k ⟨hk,hi⟩ N hN;rcases place s k hk with⟨he,hd⟩|⟨hlt,x,hx,hd⟩<;>rw[hd]at hi<;>replace hi:=hid hi
 ·simp[he]
  repeat' (first|(refine BrKd.mk (λh=>?_) (λh=>?_)<;>simp[*])|(refine BrK.mk (λh=>?_) (λh=>?_)<;>simp(disch:=omega) [*]))
  all_goals (first|simpa(disch:=omega) [*,decide_eq_true,decide_eq_false,]using hi.out.symm|simpa(disch:=omega) [*,decide_eq_true,decide_eq_false,]using hi.out)
 ·simp(disch:=omega) [hx]
  repeat' (first|(refine BrKd.mk (λh=>?_) (λh=>?_)<;>simp(disch:=omega) [*])|(refine BrK.mk (λh=>?_) (λh=>?_)<;>simp(disch:=omega) [*]))
  all_goals first
   |(refine hN.out _<|Nx.mk (k+1) (by simp) ⟨by omega,?_⟩ (by omega);simpa(disch:=omega) [*,decide_eq_true,decide_eq_false,F.small]using hi.out)
   |(first|simpa(disch:=omega) [*,decide_eq_true,decide_eq_false,F.small]using hi.out.symm|simpa(disch:=omega) [*,decide_eq_true,decide_eq_false,F.small]using hi.out)
theorem Dj(sch)(is)(his:∀s,Fn ŷ is [.str s] (.bool (F.wordOK sch s)))(l:List Str)(h:F.words l sch=ť):Fn ŷ RP [.seq 1 (l.map .str),.fn (.func is) [] []] (.bool ť):=by
 refine yoA SJ ?_;simp only[F.words,zBb,decide_eq_true_eq]at h;obtain⟨h1,h2⟩:=h;simp(disch:=omega);refine ah (λk:Nat=>⟨[(0,.seq 1 (l.map .str)),(1,.fn (.func is) [] []),(10,.seq 1 (l.map .str)),(11,.int .i64 l.length),(12,.int .i64 k)],[]⟩) (λk=>k<=l.length/\F.wordsGo sch (l.take k) (l.drop k)=ť) (λk=>l.length-k) [] _ 0 rfl (by simp) (by simp[h1]) ?_
 rintro k ⟨hk,hi⟩ N hN;rcases place l k hk with⟨he,hd⟩|⟨hlt,x,hx,hd⟩<;>rw[hd]at hi
 ·simp_all
 ·simp only[F.wordsGo,zBb,Bool.not_eq_true']at hi
  obtain⟨g1,g2,g3⟩:=hi;have hw:=his x;rw[g1]at hw;have hc:=F.f_slices_Contains_string (l.take k) x;rw[g2]at hc;rw[zCh]at hc;simp(disch:=omega) [hx];refine aa hw rfl λ_=>?_;simp(disch:=omega);refine aa hc rfl λ_=>?_;simp(disch:=omega);exact hN.out _<|Nx.mk (k+1) (by simp) ⟨by omega,by rw[bk hx];exact g3⟩ (by omega)
end Go.Abs
end
