/- Expressions as trees, plainly: what they match, and how their nets come tyo be, part by part. No condition. -/
import Derived.Test.YtnnbodoijkbceaaGreatDoorJTh3
import Derived.Test.YtnnbodoijkbceaaGreatDoorJTh4
import Derived.Test.YtnnbodoijkbceaaGreatDoorJCodeA
import Derived.Test.YtnnbodoijkbceaaGreatDoorJF1
set_option linter.all false
set_option maxHeartbeats 0
set_option maxRecDepth 100000
open List renaming reduceReplicate→zAa,append_nil→zAb,mem_append_left→zAd,mem_append→zAe,append_assoc→zAf,replicate→zAg,getElem?_eq_some_iff→zAh,mem_append_right→zAi,mem_cons→zAj,drop_eq_getElem_cons→zBa,length_cons→zBc,length_append→zBg,getElem?_map→zBi,cons_append→zCb,map_cons→zCc,map_map→zCf
open Nat renaming le_refl→zAc,lt_or_ge→zBb,le_succ→zBd,eq_or_lt_of_le→zBf,zero_le→zBj,add_assoc→zCd
open Option renaming map_eq_some_iff→zBe,not_isSome→zBh
open Bool renaming and_eq_true→zCa
open Prod.mk renaming injEq→zCe
open Option.some renaming injEq→zCg
section
namespace Go.Aut
inductive Rx where
 |set (bs:List Bool)
 |seq (l:List Rx)
 |alt (l:List Rx)
 |rep (p:Rx) (op:Nat)
abbrev Lg:=List Nat->Prop
inductive Star (L:Lg):Lg
 |nil:Star L []
 |snoc {u v:List Nat}:Star L u->L v->Star L (u++v)
def cat(A B:Lg):Lg:=fun w=>∃u v,w=u++v/\A u/\B v
def Ot(L:Lg):Lg:=cat (Star L) L
mutual
def den:Rx->Lg
 | .set bs=>fun w=>∃c,w=[c]/\bs[c]?=some true
 | .seq l=>m1 l
 | .alt l=>AN l
 | .rep p op=>fun w=>if op=63 then w=[]\/den p w else if op=42 then Star (den p) w else Ot (den p) w
def m1:List Rx->Lg
 |[]=>fun w=>w=[]
 |p::l=>cat (den p) (m1 l)
def AN:List Rx->Lg
 |[]=>fun _=>False
 |p::l=>fun w=>den p w\/AN l w
end
structure Job where
 p:Rx
 fr:Nat
 tyo:Nat
def tk(e:NEdge)(c:Nat):Bool:=decide (e.low<=c+32/\c+32<=e.high)
inductive Rg (E:List NEdge) (W:List Job):Nat->Lg
 |start:Rg E W 0 []
 |free {q:Nat} {u:List Nat} {e:NEdge}:Rg E W q u->e∈E->e.free=true->e.fr=q->Rg E W e.tyo u
 |take {q:Nat} {u:List Nat} {e:NEdge} {c:Nat}:Rg E W q u->e∈E->tk e c=true->c<95->e.fr=q->Rg E W e.tyo (u++[c])
 |job {q:Nat} {u v:List Nat} {j:Job}:Rg E W q u->j∈W->j.fr=q->den j.p v->Rg E W j.tyo (u++v)
structure Wf (n:Nat) (E:List NEdge) (W:List Job):Prop where
 two:2<=n
 edges:∀e∈E,e.fr<n/\e.tyo<n
 jobs:∀j∈W,j.fr<n/\j.tyo<n
def mix(n:Nat)(A F:Nat->Lg)(q:Nat):Lg:=if q<n then A q else F q
theorem bn{n:Nat}{A F:Nat->Lg}{q:Nat}(h:q<n):mix n A F q=A q:=if_pos h
theorem eN{n:Nat}{A F:Nat->Lg}{q:Nat}(h:n<=q):mix n A F q=F q:=if_neg (by omega)
theorem JV{n n':Nat}{E es:List NEdge}{W0 js:List Job}{j:Job}(hw:Wf n E (W0++[j]))(F:Nat->Lg)
 (hf:∀u v,Rg (E++es) (W0++js) j.fr u->den j.p v->Rg (E++es) (W0++js) j.tyo (u++v))
 (hF:∀q,n<=q->q<n'->∀u,(∀v,Rg E (W0++[j]) j.fr v->Rg (E++es) (W0++js) j.fr v)->F q u->Rg (E++es) (W0++js) q u)
 (hes:∀e∈es,e.free=true->∀u,mix n (Rg E (W0++[j])) F e.fr u->mix n (Rg E (W0++[j])) F e.tyo u)
 (htk:∀e∈es,∀c,c<95->tk e c=true->∀u,mix n (Rg E (W0++[j])) F e.fr u->mix n (Rg E (W0++[j])) F e.tyo (u++[c]))
 (hjs:∀k∈js,∀u v,mix n (Rg E (W0++[j])) F k.fr u->den k.p v->mix n (Rg E (W0++[j])) F k.tyo (u++v)):
 (∀q<n,∀u,Rg E (W0++[j]) q u↔Rg (E++es) (W0++js) q u)/\∀q,n<=q->q<n'->∀u,F q u↔Rg (E++es) (W0++js) q u:=by
 have fwd:∀q u,Rg E (W0++[j]) q u->Rg (E++es) (W0++js) q u:=by
  intro q u h
  induction h with
  |start=>exact .start
  |free _ he hf he2 ih=>exact .free ih (zAd _ he) hf he2
  |take _ he ht hc he2 ih=>exact .take ih (zAd _ he) ht hc he2
  |job _ hj hjf hd ih=>
    rcases zAe.1 hj with h|h
    ·exact .job ih (zAd _ h) hjf hd
    ·simp only[List.mem_singleton]at h
     subst h;subst hjf;exact hf _ _ ih hd
 have back:∀q u,Rg (E++es) (W0++js) q u->mix n (Rg E (W0++[j])) F q u:=by
  intro q u h
  induction h with
  |start=>rw[bn (by have:=hw.two;omega)];exact .start
  | @free q u e _ he hfr he2 ih=>
    subst he2;rcases zAe.1 he with h|h
    ·obtain⟨h1,h2⟩:=hw.edges e h
     rw[bn h1]at ih;rw[bn h2];exact .free ih h hfr rfl
    ·exact hes e h hfr u ih
  | @take q u e c _ he ht hc he2 ih=>
    subst he2;rcases zAe.1 he with h|h
    ·obtain⟨h1,h2⟩:=hw.edges e h
     rw[bn h1]at ih;rw[bn h2];exact .take ih h ht hc rfl
    ·exact htk e h c hc ht u ih
  | @job q u v k _ hk hkf hd ih=>
    subst hkf;rcases zAe.1 hk with h|h
    ·obtain⟨h1,h2⟩:=hw.jobs k (zAd _ h)
     rw[bn h1]at ih;rw[bn h2];exact .job ih (zAd _ h) rfl hd
    ·exact hjs k h u v ih hd
 refine⟨fun q hq u=>⟨fwd q u,fun h=>?_⟩,fun q hq hq' u=>⟨hF q hq hq' u (fun v=>fwd _ v),fun h=>?_⟩⟩
 ·have:=back q u h;rwa[bn hq]at this
 ·have:=back q u h;rwa[eN (by omega)]at this
def sat(cls:List Nat->List Nat->Prop)(P:Lg):Prop:=∀u v,(∀c∈u,c<95)->(∀c∈v,c<95)->cls u v->P u->P v
mutual
def lj(cls:List Nat->List Nat->Prop):Lg->Rx->Prop
 |_,.set _=>True
 |X,.seq l=>HO cls X l
 |X,.alt l=>HP cls X l
 |X,.rep p op=>if op=63 then lj cls X p else if op=42 then sat cls (cat X (Star (den p)))/\lj cls (cat X (Star (den p))) p
   else sat cls (cat X (Star (den p)))/\sat cls (cat X (Ot (den p)))/\lj cls (cat X (Star (den p))) p
def HO(cls:List Nat->List Nat->Prop):Lg->List Rx->Prop
 |_,[]=>True
 |X,p::l=>lj cls X p/\(l=[]\/(sat cls (cat X (den p))/\HO cls (cat X (den p)) l))
def HP(cls:List Nat->List Nat->Prop):Lg->List Rx->Prop
 |_,[]=>True
 |X,p::l=>lj cls X p/\HP cls X l
end
structure Sys where
 n:Nat
 E:List NEdge
 W:List Job
def Sys.P(S:Sys)(q:Nat):Lg:=Rg S.E S.W q
structure Sys.ok (cls:List Nat->List Nat->Prop) (S:Sys):Prop where
 wf:Wf S.n S.E S.W
 st:∀q<S.n,sat cls (S.P q)
 jb:∀j∈S.W,lj cls (S.P j.fr) j.p
structure Sim (S T:Sys):Prop where
 le:S.n<=T.n
 eq:∀q<S.n,S.P q=T.P q
theorem Sim.trans{S T U:Sys}(h:Sim S T)(k:Sim T U):Sim S U:=
 ⟨Nat.le_trans h.le k.le,fun q hq=>(h.eq q hq).trans (k.eq q (Nat.lt_of_lt_of_le hq h.le))⟩
def fre(a b:Nat):NEdge:=⟨a,b,1,0⟩
theorem iq(a b:Nat):(fre a b).free=true:=by simp[fre,NEdge.free]
theorem GB(a b c:Nat):tk (fre a b) c=false:=by simp[fre,tk]
theorem Star.one{L:Lg}{v:List Nat}(h:L v):Star L v:=by simpa using Star.snoc (L:=L) .nil h
theorem Nu{A L:Lg}{u:List Nat}(h:A u):cat A (Star L) u:=⟨u,[],by simp,h,.nil⟩
theorem SG{A L:Lg}{u v:List Nat}(h:cat A (Star L) u)(hv:L v):cat A (Star L) (u++v):=by
 obtain⟨a,b,rfl,h1,h2⟩:=h;exact⟨a,b++v,by simp,h1,.snoc h2 hv⟩
variable{cls:List Nat->List Nat->Prop}{n:Nat}{E:List NEdge}{W0:List Job}{fr tyo:Nat}
theorem kM{n':Nat}{es:List NEdge}{js:List Job}{j:Job}(h:(Sys.mk n E (W0++[j])).ok cls)(hn:n<=n')(F:Nat->Lg)(hwf:Wf n' (E++es) (W0++js))
 (he:(∀q<n,∀u,Rg E (W0++[j]) q u↔Rg (E++es) (W0++js) q u)/\∀q,n<=q->q<n'->∀u,F q u↔Rg (E++es) (W0++js) q u)
 (hs:∀q,n<=q->q<n'->sat cls (F q)) (hj:∀k∈js,lj cls (mix n (Rg E (W0++[j])) F k.fr) k.p):
 (Sys.mk n' (E++es) (W0++js)).ok cls/\Sim ⟨n,E,W0++[j]⟩ ⟨n',E++es,W0++js⟩:=by
 have e1:∀q<n,Rg E (W0++[j]) q=Rg (E++es) (W0++js) q:=fun q hq=>funext fun u=>propext (he.1 q hq u);have e2:∀q,n<=q->q<n'->F q=Rg (E++es) (W0++js) q:=fun q h1 h2=>funext fun u=>propext (he.2 q h1 h2 u);refine⟨⟨hwf,fun q hq=>?_,fun k hk=>?_⟩,hn,fun q hq=>e1 q hq⟩
 ·by_cases hqn:q<n
  ·have:=h.st q hqn
   simp only[Sys.P]at this⊢;rwa[<-e1 q hqn]
  ·have:=hs q (by omega) hq
   simp only[Sys.P];rwa[<-e2 q (by omega) hq]
 ·simp only[Sys.P]
  rcases zAe.1 hk with h1|h1
  ·have h2:=h.jb k (zAd _ h1)
   have h3:=(h.wf.jobs k (zAd _ h1)).1;simp only[Sys.P]at h2;rwa[<-e1 _ h3]
  ·have h2:=hj k h1
   have h3:=(hwf.jobs k (zAi _ h1)).1;by_cases hkn:k.fr<n
   ·rw[bn hkn,e1 _ hkn]at h2;exact h2
   ·rw[eN (by omega),e2 _ (by omega) h3]at h2;exact h2
theorem wq{n':Nat}{es:List NEdge}{js:List Job}{j:Job}(h:Wf n E (W0++[j]))(hn:n<=n')(he:∀e∈es,e.fr<n'/\e.tyo<n')(hj:∀k∈js,k.fr<n'/\k.tyo<n'):Wf n' (E++es) (W0++js):=by
 refine⟨by have:=h.two;omega,fun e hm=>?_,fun k hm=>?_⟩
 ·rcases zAe.1 hm with h1|h1
  ·have:=h.edges e h1;omega
  ·exact he e h1
 ·rcases zAe.1 hm with h1|h1
  ·have:=h.jobs k (zAd _ h1);omega
  ·exact hj k h1
theorem aR{j:Job}:j∈W0++[j]:=by simp
theorem QO{bs:List Bool}{es:List NEdge}(h:(Sys.mk n E (W0++[⟨.set bs,fr,tyo⟩])).ok cls)(h1:∀e∈es,e.fr=fr/\e.tyo=tyo/\e.free=false)
 (h2:∀c<95,(bs[c]?=some true↔∃e∈es,tk e c=true)) (hb:bs.length=95):(Sys.mk n (E++es) (W0++[])).ok cls/\Sim ⟨n,E,W0++[⟨.set bs,fr,tyo⟩]⟩ ⟨n,E++es,W0++[]⟩:=by
 have hw:Wf n E (W0++[_]):=h.wf;obtain⟨k1,k2⟩:=hw.jobs _ aR;simp only at k1 k2;refine kM h (zAc _) (fun _ _=>False) (wq hw (zAc _) (fun e he=>by obtain⟨g1,g2,_⟩:=h1 e he;omega) (fun k hk=>by cases hk)) (JV hw _ ?_ ?_ ?_ ?_ ?_) (fun q h1 h2=>by omega) (fun k hk=>by cases hk)
 ·intro u v hu hd
  simp only[den]at hd;obtain⟨c,rfl,hc⟩:=hd;have hc95:c<95:=by have:=(zAh.1 hc).1;omega
  obtain⟨e,he,ht⟩:=(h2 c hc95).1 hc;obtain⟨g1,g2,_⟩:=h1 e he;have:=Rg.take hu (zAi _ he) ht hc95 g1;rwa[g2]at this
 ·intro q h1 h2;omega
 ·intro e he hf;obtain⟨_,_,g⟩:=h1 e he;rw[g]at hf;cases hf
 ·intro e he c hc ht u hu
  obtain⟨g1,g2,_⟩:=h1 e he;rw[g1,bn k1]at hu;rw[g2,bn k2];refine Rg.job (j:=⟨.set bs,fr,tyo⟩) hu aR rfl ?_;simp only[den];exact⟨c,rfl,(h2 c hc).2 ⟨e,he,ht⟩⟩
 ·intro k hk;cases hk
theorem QR(h:(Sys.mk n E (W0++[⟨.seq [],fr,tyo⟩])).ok cls):(Sys.mk n (E++[fre fr tyo]) (W0++[])).ok cls/\Sim ⟨n,E,W0++[⟨.seq [],fr,tyo⟩]⟩ ⟨n,E++[fre fr tyo],W0++[]⟩:=by
 have hw:Wf n E (W0++[_]):=h.wf;obtain⟨k1,k2⟩:=hw.jobs _ aR;simp only at k1 k2;refine kM h (zAc _) (fun _ _=>False) (wq hw (zAc _) (fun e he=>by simp at he;subst he;exact⟨k1,k2⟩) (fun k hk=>by cases hk)) (JV hw _ ?_ ?_ ?_ ?_ ?_) (fun q h1 h2=>by omega) (fun k hk=>by cases hk)
 ·intro u v hu hd
  simp only[den,m1]at hd;subst hd;rw[zAb u];have hu2:Rg (E++[fre fr tyo]) (W0++[]) fr u:=hu;exact Rg.free (e:=fre fr tyo) hu2 (by simp) (iq _ _) rfl
 ·intro q h1 h2;omega
 ·intro e he hf u hu
  simp at he;subst he;simp only[fre]at hu⊢;rw[bn k1]at hu;rw[bn k2];have:=Rg.job (j:=⟨.seq [],fr,tyo⟩) (v:=[]) hu aR rfl (by simp only[den,m1])
  rwa[zAb]at this
 ·intro e he c hc ht;simp at he;subst he;rw[GB]at ht;cases ht
 ·intro k hk;cases hk
theorem JX{p:Rx}{w:List Nat}:m1 [p] w↔den p w:=by
 simp only[m1,cat];constructor
 ·rintro⟨u,v,rfl,h1,rfl⟩;simpa using h1
 ·intro h;exact⟨w,[],by simp,h,rfl⟩
theorem QQ{p:Rx}(h:(Sys.mk n E (W0++[⟨.seq [p],fr,tyo⟩])).ok cls):(Sys.mk n (E++[]) (W0++[⟨p,fr,tyo⟩])).ok cls/\Sim ⟨n,E,W0++[⟨.seq [p],fr,tyo⟩]⟩ ⟨n,E++[],W0++[⟨p,fr,tyo⟩]⟩:=by
 have hw:Wf n E (W0++[_]):=h.wf;obtain⟨k1,k2⟩:=hw.jobs _ aR;have hj:=h.jb _ aR;simp only at k1 k2;refine kM h (zAc _) (fun _ _=>False) (wq hw (zAc _) (fun e he=>by cases he) (fun k hk=>by simp at hk;subst hk;exact⟨k1,k2⟩)) (JV hw _ ?_ ?_ ?_ ?_ ?_) (fun q h1 h2=>by omega) ?_
 ·intro u v hu hd
  simp only[den]at hd;exact Rg.job (j:=⟨p,fr,tyo⟩) hu aR rfl (JX.1 hd)
 ·intro q h1 h2;omega
 ·intro e he;cases he
 ·intro e he;cases he
 ·intro k hk u v hu hd
  simp at hk;subst hk;simp only at hu⊢;rw[bn k1]at hu;rw[bn k2];refine Rg.job (j:=⟨.seq [p],fr,tyo⟩) hu aR rfl ?_;simp only[den];exact JX.2 hd
 ·intro k hk
  simp at hk;subst hk;simp only[bn k1];simp only[lj,HO]at hj;exact hj.1
theorem QN{p q0:Rx}{l:List Rx}(h:(Sys.mk n E (W0++[⟨.seq (p::q0::l),fr,tyo⟩])).ok cls):
 (Sys.mk (n+1) (E++[]) (W0++[⟨p,fr,n⟩,⟨.seq (q0::l),n,tyo⟩])).ok cls/\Sim ⟨n,E,W0++[⟨.seq (p::q0::l),fr,tyo⟩]⟩ ⟨n+1,E++[],W0++[⟨p,fr,n⟩,⟨.seq (q0::l),n,tyo⟩]⟩:=by
 have hw:Wf n E (W0++[_]):=h.wf;obtain⟨k1,k2⟩:=hw.jobs _ aR;have hj:=h.jb _ aR;simp only at k1 k2;simp only[lj,HO,List.cons_ne_nil,reduceCtorEq,false_or]at hj;simp only[Sys.P]at hj;have hd:∀w,den (.seq (p::q0::l)) w↔cat (den p) (den (.seq (q0::l))) w:=fun w=>by simp only[den,m1]
 refine kM h (zBd _) (fun _=>cat (Rg E (W0++[⟨.seq (p::q0::l),fr,tyo⟩]) fr) (den p)) (wq hw (zBd _) (fun e he=>by cases he) (fun k hk=>by
  simp at hk;rcases hk with rfl|rfl<;>simp only<;>omega)) (JV hw _ ?_ ?_ ?_ ?_ ?_) (fun q h1 h2=>hj.2.1) ?_
 ·intro u v hu hdv
  obtain⟨a,b,rfl,h1,h2⟩:=(hd v).1 hdv;rw[<-zAf];refine Rg.job (j:=⟨.seq (q0::l),n,tyo⟩) (q:=n) ?_ (by simp) rfl h2
  exact Rg.job (j:=⟨p,fr,n⟩) hu (by simp) rfl h1
 ·intro q h1 h2 u hg hu
  have:q=n:=by omega
  subst this;obtain⟨a,b,rfl,g1,g2⟩:=hu;exact Rg.job (j:=⟨p,fr,q⟩) (hg a g1) (by simp) rfl g2
 ·intro e he;cases he
 ·intro e he;cases he
 ·intro k hk u v hu hdv
  simp at hk;rcases hk with rfl|rfl
  ·simp only at hu⊢
   rw[bn k1]at hu;rw[eN (by omega)]
   exact⟨u,v,rfl,hu,hdv⟩
  ·simp only at hu⊢
   rw[eN (by omega)]at hu
   rw[bn k2];obtain⟨a,b,rfl,g1,g2⟩:=hu;rw[zAf];exact Rg.job (j:=⟨.seq (p::q0::l),fr,tyo⟩) g1 aR rfl ((hd _).2 ⟨b,v,rfl,g2,hdv⟩)
 ·intro k hk
  simp at hk;rcases hk with rfl|rfl
  ·simp only[bn k1];exact hj.1
  ·simp only
   rw[eN (by omega)]
   simp only[lj,HO];have:=hj.2.2;exact this
theorem zn{l:List Rx}{w:List Nat}:AN l w↔∃p∈l,den p w:=by
 induction l with
 |nil=>simp[AN]
 |cons p l ih=>simp[AN,ih]
theorem Q3{X:Lg}{l:List Rx}:HP cls X l↔∀p∈l,lj cls X p:=by
 induction l with
 |nil=>simp[HP]
 |cons p l ih=>simp[HP,ih]
theorem QS{l:List Rx}(h:(Sys.mk n E (W0++[⟨.alt l,fr,tyo⟩])).ok cls):(Sys.mk n (E++[]) (W0++l.map fun p=>⟨p,fr,tyo⟩)).ok cls/\Sim ⟨n,E,W0++[⟨.alt l,fr,tyo⟩]⟩ ⟨n,E++[],W0++l.map fun p=>⟨p,fr,tyo⟩⟩:=by
 have hw:Wf n E (W0++[_]):=h.wf;obtain⟨k1,k2⟩:=hw.jobs _ aR;have hj:=h.jb _ aR;simp only at k1 k2;simp only[lj,Sys.P]at hj;refine kM h (zAc _) (fun _ _=>False) (wq hw (zAc _) (fun e he=>by cases he) (fun k hk=>by simp at hk;obtain⟨p,_,rfl⟩:=hk;exact⟨k1,k2⟩)) (JV hw _ ?_ ?_ ?_ ?_ ?_) (fun q h1 h2=>by omega) ?_
 ·intro u v hu hd
  simp only[den]at hd;obtain⟨p,hp,hd⟩:=zn.1 hd;exact Rg.job (j:=⟨p,fr,tyo⟩) hu (zAi _ (List.mem_map.2 ⟨p,hp,rfl⟩)) rfl hd
 ·intro q h1 h2;omega
 ·intro e he;cases he
 ·intro e he;cases he
 ·intro k hk u v hu hd
  simp at hk;obtain⟨p,hp,rfl⟩:=hk;simp only at hu⊢;rw[bn k1]at hu;rw[bn k2];refine Rg.job (j:=⟨.alt l,fr,tyo⟩) hu aR rfl ?_;simp only[den];exact zn.2 ⟨p,hp,hd⟩
 ·intro k hk
  simp at hk;obtain⟨p,hp,rfl⟩:=hk;simp only[bn k1];exact Q3.1 hj p hp
theorem QP{p:Rx}(h:(Sys.mk n E (W0++[⟨.rep p 63,fr,tyo⟩])).ok cls):(Sys.mk n (E++[fre fr tyo]) (W0++[⟨p,fr,tyo⟩])).ok cls/\Sim ⟨n,E,W0++[⟨.rep p 63,fr,tyo⟩]⟩ ⟨n,E++[fre fr tyo],W0++[⟨p,fr,tyo⟩]⟩:=by
 have hw:Wf n E (W0++[_]):=h.wf;obtain⟨k1,k2⟩:=hw.jobs _ aR;have hj:=h.jb _ aR;simp only at k1 k2;simp only[lj,Sys.P,if_true]at hj;have hd:∀w,den (.rep p 63) w↔(w=[]\/den p w):=fun w=>by simp only[den,if_true]
 refine kM h (zAc _) (fun _ _=>False) (wq hw (zAc _) (fun e he=>by simp at he;subst he;exact⟨k1,k2⟩) (fun k hk=>by simp at hk;subst hk;exact⟨k1,k2⟩)) (JV hw _ ?_ ?_ ?_ ?_ ?_) (fun q h1 h2=>by omega) ?_
 ·intro u v hu hdv
  rcases(hd v).1 hdv with rfl|h1
  ·rw[zAb]
   exact Rg.free hu (e:=fre fr tyo) (by simp) (iq _ _) rfl
  ·exact Rg.job (j:=⟨p,fr,tyo⟩) hu aR rfl h1
 ·intro q h1 h2;omega
 ·intro e he hf u hu
  simp at he;subst he;simp only[fre]at hu⊢;rw[bn k1]at hu;rw[bn k2];have:=Rg.job (j:=⟨.rep p 63,fr,tyo⟩) (v:=[]) hu aR rfl ((hd _).2 (.inl rfl));rwa[zAb]at this
 ·intro e he c hc ht;simp at he;subst he;rw[GB]at ht;cases ht
 ·intro k hk u v hu hdv
  simp at hk;subst hk;simp only at hu⊢;rw[bn k1]at hu;rw[bn k2];exact Rg.job (j:=⟨.rep p 63,fr,tyo⟩) hu aR rfl ((hd _).2 (.inr hdv))
 ·intro k hk
  simp at hk;subst hk;simp only[bn k1];exact hj
theorem N3{p:Rx}(h:(Sys.mk n E (W0++[⟨.rep p 42,fr,tyo⟩])).ok cls):
 (Sys.mk (n+1) (E++[fre fr n,fre n tyo]) (W0++[⟨p,n,n⟩])).ok cls/\Sim ⟨n,E,W0++[⟨.rep p 42,fr,tyo⟩]⟩ ⟨n+1,E++[fre fr n,fre n tyo],W0++[⟨p,n,n⟩]⟩:=by
 have hw:Wf n E (W0++[_]):=h.wf;obtain⟨k1,k2⟩:=hw.jobs _ aR;have hj:=h.jb _ aR;simp only at k1 k2;simp only[lj,Sys.P,if_true,if_neg (show ¬(42:Nat)=63 by omega)]at hj
 have hd:∀w,den (.rep p 42) w↔Star (den p) w:=fun w=>by simp only[den,if_true,if_neg (show ¬(42:Nat)=63 by omega)]
 obtain⟨A,hA⟩:∃A,A=Rg E (W0++[⟨.rep p 42,fr,tyo⟩]) fr:=⟨_,rfl⟩;rw[<-hA]at hj
 have star:∀{T:Nat->Lg},(∀u v,T n u->den p v->T n (u++v))->∀a b,T n a->Star (den p) b->T n (a++b):=by
  intro T hT a b ha hb
  induction hb with
  |nil=>rwa[zAb]
  |snoc _ h2 ih=>rw[<-zAf];exact hT _ _ ih h2
 refine kM h (zBd _) (fun _=>cat A (Star (den p))) (wq hw (zBd _) (fun e he=>by simp at he;rcases he with rfl|rfl<;>simp only[fre]<;>omega) (fun k hk=>by simp at hk;subst hk;simp only;omega)) (JV hw _ ?_ ?_ ?_ ?_ ?_) (fun q h1 h2=>hj.1) ?_
 ·intro u v hu hdv
  refine Rg.free (q:=n) (e:=fre n tyo) ?_ (by simp) (iq _ _) rfl
  refine star (T:=Rg (E++[fre fr n,fre n tyo]) (W0++[⟨p,n,n⟩])) (fun u v h1 h2=>Rg.job (j:=⟨p,n,n⟩) h1 aR rfl h2) _ _ ?_ ((hd v).1 hdv);exact Rg.free (e:=fre fr n) hu (by simp) (iq _ _) rfl
 ·intro q h1 h2 u hg hu
  have:q=n:=by omega
  subst this;obtain⟨a,b,rfl,g1,g2⟩:=hu;rw[hA]at g1;refine star (T:=Rg (E++[fre fr q,fre q tyo]) (W0++[⟨p,q,q⟩])) (fun u v h1 h2=>Rg.job (j:=⟨p,q,q⟩) h1 aR rfl h2) _ _ ?_ g2;exact Rg.free (e:=fre fr q) (hg a g1) (by simp) (iq _ _) rfl
 ·intro e he hf u hu
  simp at he;rcases he with rfl|rfl
  ·simp only[fre]at hu⊢
   rw[bn k1]at hu;rw[eN (by omega)]
   exact Nu (by rw[hA];exact hu)
  ·simp only[fre]at hu⊢
   rw[eN (by omega)]at hu
   rw[bn k2];obtain⟨a,b,rfl,g1,g2⟩:=hu;rw[hA]at g1;exact Rg.job (j:=⟨.rep p 42,fr,tyo⟩) g1 aR rfl ((hd _).2 g2)
 ·intro e he c hc ht;simp at he;rcases he with rfl|rfl<;>(rw[GB]at ht;cases ht)
 ·intro k hk u v hu hdv
  simp at hk;subst hk;simp only at hu⊢;rw[eN (by omega)]at hu⊢
  exact SG hu hdv
 ·intro k hk
  simp at hk;subst hk;simp only;rw[eN (by omega)]
  exact hj.2
theorem N1{p:Rx}{op:Nat}(ho:op≠63)(ho2:op≠42)(h:(Sys.mk n E (W0++[⟨.rep p op,fr,tyo⟩])).ok cls):
 (Sys.mk (n+2) (E++[fre fr n,fre (n+1) n,fre (n+1) tyo]) (W0++[⟨p,n,n+1⟩])).ok cls/\Sim ⟨n,E,W0++[⟨.rep p op,fr,tyo⟩]⟩ ⟨n+2,E++[fre fr n,fre (n+1) n,fre (n+1) tyo],W0++[⟨p,n,n+1⟩]⟩:=by
 have hw:Wf n E (W0++[_]):=h.wf;obtain⟨k1,k2⟩:=hw.jobs _ aR;have hj:=h.jb _ aR;simp only at k1 k2;simp only[lj,Sys.P,if_neg ho,if_neg ho2]at hj;have hd:∀w,den (.rep p op) w↔Ot (den p) w:=fun w=>by simp only[den,if_neg ho,if_neg ho2]
 obtain⟨A,hA⟩:∃A,A=Rg E (W0++[⟨.rep p op,fr,tyo⟩]) fr:=⟨_,rfl⟩;rw[<-hA]at hj;obtain⟨B,hB⟩:∃B,B=Rg (E++[fre fr n,fre (n+1) n,fre (n+1) tyo]) (W0++[⟨p,n,n+1⟩]):=⟨_,rfl⟩;have b1:∀u,B fr u->B n u:=fun u hu=>by rw[hB]at hu⊢;exact Rg.free (e:=fre fr n) hu (by simp) (iq _ _) rfl
 have b2:∀u,B (n+1) u->B n u:=fun u hu=>by rw[hB]at hu⊢;exact Rg.free (e:=fre (n+1) n) hu (by simp) (iq _ _) rfl
 have b3:∀u,B (n+1) u->B tyo u:=fun u hu=>by rw[hB]at hu⊢;exact Rg.free (e:=fre (n+1) tyo) hu (by simp) (iq _ _) rfl
 have b4:∀u v,B n u->den p v->B (n+1) (u++v):=fun u v hu hv=>by rw[hB]at hu⊢;exact Rg.job (j:=⟨p,n,n+1⟩) hu aR rfl hv
 have star:∀a b,B n a->Star (den p) b->B n (a++b):=by
  intro a b ha hb
  induction hb with
  |nil=>rwa[zAb]
  |snoc _ h2 ih=>rw[<-zAf];exact b2 _ (b4 _ _ ih h2)
 have hnm:∀q,n<=q->q<n+2->q=n\/q=n+1:=fun q h1 h2=>by omega
 obtain⟨F,hFn,hFm⟩:∃F:Nat->Lg,F n=cat A (Star (den p))/\F (n+1)=cat A (Ot (den p)):=⟨fun q=>if q=n then cat A (Star (den p))else cat A (Ot (den p)),by simp,by simp⟩
 refine kM h (by omega) F (wq hw (by omega) (fun e he=>by simp at he;rcases he with rfl|rfl|rfl<;>simp only[fre]<;>omega) (fun k hk=>by simp at hk;subst hk;simp only;omega)) (JV hw _ ?_ ?_ ?_ ?_ ?_) ?_ ?_
 ·intro u v hu hdv
  rw[<-hB]at hu⊢;obtain⟨a,b,rfl,g1,g2⟩:=(hd v).1 hdv;rw[<-zAf];exact b3 _ (b4 _ _ (star _ _ (b1 _ hu) g1) g2)
 ·intro q h1 h2 u hg hu
  rw[<-hB]at hg⊢;rcases hnm q h1 h2 with rfl|rfl
  ·rw[hFn]at hu
   obtain⟨a,b,rfl,g1,g2⟩:=hu;rw[hA]at g1;exact star _ _ (b1 _ (hg a g1)) g2
  ·rw[hFm]at hu
   obtain⟨a,b,rfl,g1,c,d,rfl,g2,g3⟩:=hu;rw[hA]at g1;rw[<-zAf];exact b4 _ _ (star _ _ (b1 _ (hg a g1)) g2) g3
 ·intro e he hf u hu
  simp at he;rcases he with rfl|rfl|rfl
  ·simp only[fre]at hu⊢
   rw[bn k1]at hu;rw[eN (by omega),hFn]
   exact Nu (by rw[hA];exact hu)
  ·simp only[fre]at hu⊢
   rw[eN (by omega),hFm]at hu
   rw[eN (by omega),hFn]
   obtain⟨a,b,rfl,g1,c,d,rfl,g2,g3⟩:=hu;exact⟨a,c++d,rfl,g1,.snoc g2 g3⟩
  ·simp only[fre]at hu⊢
   rw[eN (by omega),hFm]at hu
   rw[bn k2];obtain⟨a,b,rfl,g1,g2⟩:=hu;rw[hA]at g1;exact Rg.job (j:=⟨.rep p op,fr,tyo⟩) g1 aR rfl ((hd _).2 g2)
 ·intro e he c hc ht;simp at he;rcases he with rfl|rfl|rfl<;>(rw[GB]at ht;cases ht)
 ·intro k hk u v hu hdv
  simp at hk;subst hk;simp only at hu⊢;rw[eN (by omega),hFn]at hu
  rw[eN (by omega),hFm]
  obtain⟨a,b,rfl,g1,g2⟩:=hu;exact⟨a,b++v,by simp,g1,b,v,rfl,g2,hdv⟩
 ·intro q h1 h2
  rcases hnm q h1 h2 with rfl|rfl
  ·rw[hFn];exact hj.1
  ·rw[hFm];exact hj.2.1
 ·intro k hk
  simp at hk;subst hk;simp only;rw[eN (by omega),hFn]
  exact hj.2.2
def nQ(bs:List Bool):Nat->Nat->Nat
 |0,i=>i
 |f+1,i=>if i+1<95/\bs[i+1]?=some true then nQ bs f (i+1)else i
def kE(bs:List Bool)(fr tyo:Nat):Nat->Nat->List NEdge
 |0,_=>[]
 |f+1,i=>if i<95 then(if bs[i]?=some true then⟨fr,tyo,32+i,32+nQ bs 95 i⟩::kE bs fr tyo f (nQ bs 95 i+1)else kE bs fr tyo f (i+1))else[]
def UL(bs:List Bool)(fr tyo:Nat):List NEdge:=kE bs fr tyo 95 0
theorem vt(bs:List Bool):∀(f i:Nat),i<95->bs[i]?=some true->i<=nQ bs f i/\nQ bs f i<95/\∀k,i<=k->k<=nQ bs f i->bs[k]?=some true
 |0,i,hi,hb=>by
   simp only[nQ];exact⟨zAc _,hi,fun k h1 h2=>by rw[show k=i by omega];exact hb⟩
 |f+1,i,hi,hb=>by
   simp only[nQ];split
   ·rename_i h
    obtain⟨h1,h2,h3⟩:=vt bs f (i+1) h.1 h.2;refine⟨by omega,h2,fun k g1 g2=>?_⟩
    rcases zBf g1 with rfl|g1
    ·exact hb
    ·exact h3 k g1 g2
   ·exact⟨zAc _,hi,fun k h1 h2=>by rw[show k=i by omega];exact hb⟩
theorem mu(bs:List Bool)(fr tyo:Nat):∀(f i:Nat),95<=f+i->(∀e∈kE bs fr tyo f i,e.fr=fr/\e.tyo=tyo/\e.free=false/\e.low<256/\e.high<256)/\∀c<95,((∃e∈kE bs fr tyo f i,tk e c=true)↔i<=c/\bs[c]?=some true)
 |0,i,hf=>by
   simp only[kE];exact⟨fun e he=>(by cases he),fun c hc=>⟨fun⟨e,he,_⟩=>(by cases he),fun h=>by omega⟩⟩
 |f+1,i,hf=>by
   simp only[kE];split
   ·rename_i hi
    split
    ·rename_i hb
     obtain⟨h1,h2,h3⟩:=vt bs 95 i hi hb;obtain⟨g1,g2⟩:=mu bs fr tyo f (nQ bs 95 i+1) (by omega)
     refine⟨fun e he=>?_,fun c hc=>?_⟩
     ·rcases zAj.1 he with rfl|he
      ·refine⟨rfl,rfl,?_,?_,?_⟩
       ·simp only[NEdge.free,decide_eq_false_iff_not];omega
       ·simp only;omega
       ·simp only;omega
      ·exact g1 e he
     ·have e1:=g2 c hc
      constructor
      ·rintro⟨e,he,ht⟩
       rcases zAj.1 he with rfl|he
       ·simp only[tk,decide_eq_true_eq]at ht
        exact⟨by omega,h3 c (by omega) (by omega)⟩
       ·obtain⟨k1,k2⟩:=e1.1 ⟨e,he,ht⟩
        exact⟨by omega,k2⟩
      ·rintro⟨k1,k2⟩
       by_cases hr:c<=nQ bs 95 i
       ·exact⟨_,List.mem_cons_self,by simp only[tk,decide_eq_true_eq];omega⟩
       ·obtain⟨e,he,ht⟩:=e1.2 ⟨by omega,k2⟩
        exact⟨e,List.mem_cons_of_mem _ he,ht⟩
    ·rename_i hb
     obtain⟨g1,g2⟩:=mu bs fr tyo f (i+1) (by omega)
     refine⟨g1,fun c hc=>?_⟩;rw[g2 c hc];constructor
     ·rintro⟨k1,k2⟩;exact⟨by omega,k2⟩
     ·rintro⟨k1,k2⟩
      refine⟨?_,k2⟩;rcases zBf k1 with rfl|k1
      ·exact absurd k2 hb
      ·exact k1
   ·rename_i hi
    exact⟨fun e he=>(by cases he),fun c hc=>⟨fun⟨e,he,_⟩=>(by cases he),fun h=>by omega⟩⟩
theorem vp(bs:List Bool)(fr tyo:Nat):∀(f i:Nat),(kE bs fr tyo f i).length<=f
 |0,i=>by simp[kE]
 |f+1,i=>by
   simp only[kE];split
   ·split
    ·have:=vp bs fr tyo f (nQ bs 95 i+1);simp;omega
    ·have:=vp bs fr tyo f (i+1);omega
   ·simp
def jK(tyo:Nat):Rx->List Rx->Nat->Nat->List Job
 |p,[],fr,_=>[⟨p,fr,tyo⟩]
 |p,q::l,fr,n=>⟨p,fr,n⟩::jK tyo q l n (n+1)
def bf(j:Job)(n:Nat):Nat×List NEdge×List Job:=match j.p with
 | .set bs=>(n,UL bs j.fr j.tyo,[])
 | .seq []=>(n,[fre j.fr j.tyo],[])
 | .seq (p::l)=>(n+l.length,[],jK j.tyo p l j.fr n)
 | .alt l=>(n,[],l.map fun p=>⟨p,j.fr,j.tyo⟩)
 | .rep p op=>if op=63 then(n,[fre j.fr j.tyo],[⟨p,j.fr,j.tyo⟩])else if op=42 then(n+1,[fre j.fr n,fre n j.tyo],[⟨p,n,n⟩])
   else(n+2,[fre j.fr n,fre (n+1) n,fre (n+1) j.tyo],[⟨p,n,n+1⟩])
def rh:Nat->Nat->List NEdge->List Job->Option (Nat×List NEdge)
 |0,_,_,_=>none
 |f+1,n,E,W=>match W.getLast? with
   |none=>some (n,E)
   |some j=>rh f (bf j n).1 (E++(bf j n).2.1) (W.dropLast++(bf j n).2.2)
mutual
def wfR:Rx->Bool
 | .set bs=>decide (bs.length=95)
 | .seq l=>EP l
 | .alt l=>EP l
 | .rep p _=>wfR p
def EP:List Rx->Bool
 |[]=>true
 |p::l=>wfR p&&EP l
end
mutual
def dY:Rx->Nat
 | .set _=>1
 | .seq l=>1+fJ l
 | .alt l=>1+fJ l
 | .rep p _=>1+dY p
def fJ:List Rx->Nat
 |[]=>0
 |p::l=>dY p+fJ l
end
mutual
def fresh:Rx->Nat
 | .set _=>0
 | .seq l=>(l.length-1)+j1 l
 | .alt l=>j1 l
 | .rep p op=>(if op=63 then 0 else if op=42 then 1 else 2)+fresh p
def j1:List Rx->Nat
 |[]=>0
 |p::l=>fresh p+j1 l
end
theorem Hn:∀{l:List Rx},EP l=true↔∀p∈l,wfR p=true
 |[]=>by simp[EP]
 |p::l=>by simp[EP,Hn (l:=l)]
variable{cls:List Nat->List Nat->Prop}
theorem MS{tyo:Nat}:∀(l:List Rx)(p:Rx)(fr n:Nat)(E:List NEdge)(W0:List Job),(Sys.mk n E (W0++[⟨.seq (p::l),fr,tyo⟩])).ok cls->
 (Sys.mk (n+l.length) E (W0++jK tyo p l fr n)).ok cls/\Sim ⟨n,E,W0++[⟨.seq (p::l),fr,tyo⟩]⟩ ⟨n+l.length,E,W0++jK tyo p l fr n⟩
 |[],p,fr,n,E,W0,h=>by
   have:=QQ h;simpa[jK]using this
 |q::l,p,fr,n,E,W0,h=>by
   obtain⟨h1,h2⟩:=QN h;rw[zAb]at h1 h2;have e:W0++[⟨p,fr,n⟩,⟨.seq (q::l),n,tyo⟩]=(W0++[⟨p,fr,n⟩])++[(⟨.seq (q::l),n,tyo⟩:Job)]:=by simp
   rw[e]at h1 h2;obtain⟨h3,h4⟩:=MS l q n (n+1) E (W0++[⟨p,fr,n⟩]) h1;have e2:n+(q::l).length=n+1+l.length:=by simp;omega
   have e3:W0++jK tyo p (q::l) fr n=W0++[⟨p,fr,n⟩]++jK tyo q l n (n+1):=by simp[jK]
   rw[e2,e3];exact⟨h3,h2.trans h4⟩
theorem VB{n:Nat}{E:List NEdge}{W0:List Job}{j:Job}(h:(Sys.mk n E (W0++[j])).ok cls)(hw:wfR j.p=true):
 (Sys.mk (bf j n).1 (E++(bf j n).2.1) (W0++(bf j n).2.2)).ok cls/\Sim ⟨n,E,W0++[j]⟩ ⟨(bf j n).1,E++(bf j n).2.1,W0++(bf j n).2.2⟩:=by
 obtain⟨p,fr,tyo⟩:=j;cases p with
 |set bs=>
   simp only[wfR,decide_eq_true_eq]at hw;obtain⟨g1,g2⟩:=mu bs fr tyo 95 0 (by omega)
   simp only[bf];refine QO h (fun e he=>?_) (fun c hc=>?_) hw
   ·obtain⟨k1,k2,k3,_⟩:=g1 e he;exact⟨k1,k2,k3⟩
   ·have:=g2 c hc
    simp only[zBj,true_and]at this;exact this.symm
 |seq l=>
   cases l with
   |nil=>simp only[bf];exact QR h
   |cons p l=>
     simp only[bf];rw[zAb];exact MS l p fr n E W0 h
 |alt l=>simp only[bf];exact QS h
 |rep p op=>
   simp only[bf];split
   ·rename_i ho;subst ho;exact QP h
   ·split
    ·rename_i ho;subst ho;exact N3 h
    ·rename_i h1 h2;exact N1 h1 h2 h
theorem MR{tyo:Nat}:∀(l:List Rx)(p:Rx)(fr n:Nat),wfR p=true->EP l=true->∀k∈jK tyo p l fr n,wfR k.p=true
 |[],p,fr,n,h1,_,k,hk=>by simp[jK]at hk;subst hk;exact h1
 |q::l,p,fr,n,h1,h2,k,hk=>by
   simp only[EP,zCa]at h2;simp only[jK,zAj]at hk;rcases hk with rfl|hk
   ·exact h1
   ·exact MR l q n (n+1) h2.1 h2.2 k hk
theorem Np{j:Job}{n:Nat}(hw:wfR j.p=true):∀k∈(bf j n).2.2,wfR k.p=true:=by
 obtain⟨p,fr,tyo⟩:=j;cases p with
 |set bs=>simp[bf]
 |seq l=>
   cases l with
   |nil=>simp[bf]
   |cons p l=>
     simp only[wfR,EP,zCa]at hw;simp only[bf];exact MR l p fr n hw.1 hw.2
 |alt l=>
   simp only[wfR]at hw;simp only[bf];intro k hk;simp at hk;obtain⟨p,hp,rfl⟩:=hk;exact Hn.1 hw p hp
 |rep p op=>
   simp only[wfR]at hw;simp only[bf];intro k hk;split at hk
   ·simp at hk;subst hk;exact hw
   ·split at hk<;>(simp at hk;subst hk;exact hw)
def bw:List Job->Nat
 |[]=>0
 |j::l=>dY j.p+bw l
def a7:List Job->Nat
 |[]=>0
 |j::l=>fresh j.p+a7 l
theorem fF:∀(a b:List Job),bw (a++b)=bw a+bw b
 |[],b=>by simp[bw]
 |x::a,b=>by simp only[zCb,bw,fF a b];omega
theorem eV:∀(a b:List Job),a7 (a++b)=a7 a+a7 b
 |[],b=>by simp[a7]
 |x::a,b=>by simp only[zCb,a7,eV a b];omega
theorem DB{tyo:Nat}:∀(l:List Rx)(p:Rx)(fr n:Nat),bw (jK tyo p l fr n)=dY p+fJ l/\a7 (jK tyo p l fr n)=fresh p+j1 l
 |[],p,fr,n=>by simp[jK,bw,a7,fJ,j1]
 |q::l,p,fr,n=>by
   obtain⟨h1,h2⟩:=DB (tyo:=tyo) l q n (n+1);exact⟨by simp only[jK,bw,h1,fJ],by simp only[jK,a7,h2,j1]⟩
theorem Kc{fr tyo:Nat}:∀l:List Rx,bw (l.map fun p=>⟨p,fr,tyo⟩)=fJ l/\a7 (l.map fun p=>⟨p,fr,tyo⟩)=j1 l
 |[]=>by simp[bw,a7,fJ,j1]
 |p::l=>by
   obtain⟨h1,h2⟩:=Kc (fr:=fr) (tyo:=tyo) l;exact⟨by simp only[zCc,bw,h1,fJ],by simp only[zCc,a7,h2,j1]⟩
theorem Et(j:Job)(n:Nat):bw (bf j n).2.2+1=dY j.p/\(bf j n).1+a7 (bf j n).2.2=n+fresh j.p/\(bf j n).2.1.length<=95:=by
 obtain⟨p,fr,tyo⟩:=j;cases p with
 |set bs=>
   refine⟨by simp[bf,bw,dY],by simp[bf,a7,fresh],?_⟩
   simp only[bf];exact vp bs fr tyo 95 0
 |seq l=>
   cases l with
   |nil=>simp[bf,bw,a7,dY,fresh,fJ,j1]
   |cons p l=>
     obtain⟨h1,h2⟩:=DB (tyo:=tyo) l p fr n;simp only[bf,dY,fresh,fJ,j1,h1,h2];refine⟨by omega,by simp;omega,by simp⟩
 |alt l=>
   obtain⟨h1,h2⟩:=Kc (fr:=fr) (tyo:=tyo) l;simp only[bf,dY,fresh,h1,h2];exact⟨by omega,trivial,by simp⟩
 |rep p op=>
   simp only[bf,dY,fresh];split
   ·simp[bw,a7];omega
   ·split
    ·simp[bw,a7];omega
    ·simp[bw,a7];omega
theorem uq{W:List Job}{j:Job}(h:W.getLast?=some j):W=W.dropLast++[j]:=by
 rcases List.eq_nil_or_concat W with rfl|⟨l,x,rfl⟩
 ·simp at h
 ·simp at h;subst h;simp
theorem yZ:∀(f n:Nat)(E:List NEdge)(W:List Job),(Sys.mk n E W).ok cls->(∀j∈W,wfR j.p=true)->bw W<f->
 ∃n' E',rh f n E W=some (n',E')/\(Sys.mk n' E' []).ok cls/\Sim ⟨n,E,W⟩ ⟨n',E',[]⟩/\n'=n+a7 W/\E'.length<=E.length+95*bw W
 |0,_,_,_,_,_,hf=>by omega
 |f+1,n,E,W,h,hw,hf=>by
   simp only[rh];cases hl:W.getLast? with
   |none=>
     have:W=[]:=by simpa using hl
     subst this;exact⟨n,E,rfl,h,⟨zAc _,fun _ _=>rfl⟩,by simp[a7],by simp⟩
   |some j=>
     have e:=uq hl;obtain⟨W0,hW0⟩:∃W0,W0=W.dropLast:=⟨_,rfl⟩;rw[<-hW0]at e;simp only[<-hW0];subst e;obtain⟨h1,h2⟩:=VB h (hw j (by simp))
     obtain⟨s1,s2,s3⟩:=Et j n;have hz:bw (W0++[j])=bw W0+dY j.p:=by rw[fF];simp[bw]
     have hz2:bw (W0++(bf j n).2.2)=bw W0+bw (bf j n).2.2:=fF _ _;have hz3:a7 (W0++[j])=a7 W0+fresh j.p:=by rw[eV];simp[a7]
     have hz4:a7 (W0++(bf j n).2.2)=a7 W0+a7 (bf j n).2.2:=eV _ _
     obtain⟨n',E',g1,g2,g3,g4,g5⟩:=yZ f _ _ (W0++(bf j n).2.2) h1 (fun k hk=>by
      rcases zAe.1 hk with hk|hk
      ·exact hw k (by simp[hk])
      ·exact Np (hw j (by simp)) k hk) (by omega)
     refine⟨n',E',g1,g2,h2.trans g3,by omega,?_⟩
     rw[zBg]at g5;rw[hz2]at g5;rw[hz,<-s1];omega
theorem start_P{p:Rx}:∀{q:Nat}{u:List Nat},Rg [] [⟨p,0,1⟩] q u↔(q=0/\u=[])\/(q=1/\den p u):=by
 intro q u;constructor
 ·intro h
  induction h with
  |start=>exact .inl ⟨rfl,rfl⟩
  |free _ he=>cases he
  |take _ he=>cases he
  | @job q u v j _ hj hf hd ih=>
    simp at hj;subst hj;rcases ih with⟨h1,rfl⟩|⟨h1,_⟩
    ·exact .inr ⟨rfl,by simpa using hd⟩
    ·rw[h1]at hf;cases hf
 ·rintro(⟨rfl,rfl⟩|⟨rfl,h⟩)
  ·exact .start
  ·have:=Rg.job (E:=[]) (W:=[⟨p,0,1⟩]) (j:=⟨p,0,1⟩) .start (by simp) rfl h
   simpa using this
theorem L9(j:Job)(n:Nat):∀e∈(bf j n).2.1,e.low<256/\e.high<256:=by
 obtain⟨p,fr,tyo⟩:=j;have hf:∀a b,(fre a b).low<256/\(fre a b).high<256:=fun a b=>by simp[fre]
 cases p with
 |set bs=>
   simp only[bf];intro e he;obtain⟨_,_,_,h4,h5⟩:=(mu bs fr tyo 95 0 (by omega)).1 e he
   exact⟨h4,h5⟩
 |seq l=>
   cases l with
   |nil=>simp only[bf];intro e he;simp at he;subst he;exact hf _ _
   |cons p l=>simp[bf]
 |alt l=>simp[bf]
 |rep p op=>
   simp only[bf];intro e he;split at he
   ·simp at he;subst he;exact hf _ _
   ·split at he
    ·simp at he;rcases he with rfl|rfl<;>exact hf _ _
    ·simp at he;rcases he with rfl|rfl|rfl<;>exact hf _ _
theorem wH:∀(f n:Nat)(E:List NEdge)(W:List Job)(r:Nat×List NEdge),(∀e∈E,e.low<256/\e.high<256)->rh f n E W=some r->∀e∈r.2,e.low<256/\e.high<256
 |0,_,_,_,_,_,h=>by simp[rh]at h
 |f+1,n,E,W,r,hE,h=>by
   simp only[rh]at h;split at h
   ·cases h;exact hE
   ·refine wH f _ _ _ r (fun e he=>?_) h
    rcases zAe.1 he with he|he
    ·exact hE e he
    ·exact L9 _ _ e he
def Ik(p:Rx):Option Net:=(rh (dY p+1) 2 [] [⟨p,0,1⟩]).map fun x=>⟨x.1,0,1,x.2⟩
structure NetSpec (cls:List Nat->List Nat->Prop) (p:Rx) (N:Net):Prop where
 n:N.n=2+fresh p
 start:N.start=0
 stop:N.stop=1
 edges:∀e∈N.edges,e.fr<N.n/\e.tyo<N.n
 bytes:∀e∈N.edges,e.low<256/\e.high<256
 len:N.edges.length<=95*dY p
 lang:∀u,Rg N.edges [] 1 u↔den p u
 sat:∀q<N.n,sat cls (Rg N.edges [] q)
theorem K8{p:Rx}(hw:wfR p=true)(h0:sat cls fun u=>u=[])(h1:sat cls (den p))(h2:lj cls (fun u=>u=[]) p):∃N,Ik p=some N/\NetSpec cls p N:=by
 have e0:Rg [] [⟨p,0,1⟩] 0=fun u=>u=[]:=funext fun u=>propext (start_P.trans (by simp))
 have e1:Rg [] [⟨p,0,1⟩] 1=den p:=funext fun u=>propext (start_P.trans (by simp))
 have hok:(Sys.mk 2 [] [⟨p,0,1⟩]).ok cls:=by
  refine⟨⟨zAc _,fun e he=>(by cases he),fun j hj=>by simp at hj;subst hj;simp⟩,fun q hq=>?_,fun j hj=>?_⟩
  ·have:q=0\/q=1:=by simp only at hq;omega
   simp only[Sys.P];rcases this with rfl|rfl
   ·rw[e0];exact h0
   ·rw[e1];exact h1
  ·simp at hj
   subst hj;simp only[Sys.P];rw[e0];exact h2
 obtain⟨n',E',g1,g2,g3,g4,g5⟩:=yZ (dY p+1) 2 [] [⟨p,0,1⟩] hok (fun j hj=>by simp at hj;subst hj;exact hw) (by simp[bw])
 refine⟨⟨n',0,1,E'⟩,by simp[Ik,g1],⟨by simpa[a7]using g4,rfl,rfl,g2.wf.edges,wH _ _ _ _ _ (fun e he=>(by cases he)) g1,by simpa[bw]using g5,fun u=>?_,fun q hq=>g2.st q hq⟩⟩
 have:=g3.eq 1 (by simp)
 simp only[Sys.P]at this;rw[<-this,e1]
end Go.Aut
end
section
namespace Go.Abs
open Go.Proofs Go.Aut
attribute [-simp] getElem?_pos zBh zCf
attribute [-simp] cl nt
@[simp] theorem cl_int {k:IntKind} {n:Int}:cl (V.int k n)=[V.int k n]:=rfl
@[simp] theorem nt_int {k:IntKind} {n:Int}:nt (V.int k n)=true:=rfl
@[simp] theorem cl_bool {b:Bool}:cl (V.bool b)=[V.bool b]:=rfl
@[simp] theorem nt_bool {b:Bool}:nt (V.bool b)=true:=rfl
@[simp] theorem cl_str {s:List UInt8}:cl (V.str s)=[V.str s]:=rfl
@[simp] theorem nt_str {s:List UInt8}:nt (V.str s)=true:=rfl
@[simp] theorem cl_nil {z:Nat}:cl (V.nil z)=[V.nil z]:=rfl
@[simp] theorem nt_nil {z:Nat}:nt (V.nil z)=true:=rfl
@[simp] theorem cl_seq {z:Nat} {l:List V}:cl (V.seq z l)=[V.seq z l]:=rfl
@[simp] theorem nt_seq {z:Nat} {l:List V}:nt (V.seq z l)=true:=rfl
@[simp] theorem cl_ref {i n:Nat}:cl (V.ref i n)=[V.ref i n]:=rfl
@[simp] theorem nt_ref {i n:Nat}:nt (V.ref i n)=true:=rfl
@[simp] theorem cl_ptr {i o:Nat}:cl (V.ptr i o)=[V.ptr i o]:=rfl
@[simp] theorem nt_ptr {i o:Nat}:nt (V.ptr i o)=true:=rfl
@[simp] theorem cl_eptr {i n j o:Nat}:cl (V.eptr i n j o)=[V.eptr i n j o]:=rfl
@[simp] theorem nt_eptr {i n j o:Nat}:nt (V.eptr i n j o)=true:=rfl
@[simp] theorem cl_mref {i j n:Nat}:cl (V.mref i j n)=[V.mref i j n]:=rfl
@[simp] theorem nt_mref {i j n:Nat}:nt (V.mref i j n)=true:=rfl
@[simp] theorem cl_fseq {z:Nat} {l:List V}:cl (V.fseq z l)=[V.fseq z l]:=rfl
@[simp] theorem nt_fseq {z:Nat} {l:List V}:nt (V.fseq z l)=true:=rfl
@[simp] theorem cl_mptr {i n j k o:Nat}:cl (V.mptr i n j k o)=[V.mptr i n j k o]:=rfl
@[simp] theorem nt_mptr {i n j k o:Nat}:nt (V.mptr i n j k o)=true:=rfl
@[simp] theorem cl_sptr {x:V} {o:Nat}:cl (V.sptr x o)=[V.sptr x o]:=rfl
@[simp] theorem nt_sptr {x:V} {o:Nat}:nt (V.sptr x o)=true:=rfl
@[simp] theorem cl_nilptr :cl (V.nilptr)=[V.nilptr]:=rfl
@[simp] theorem nt_nilptr :nt (V.nilptr)=true:=rfl
@[simp] theorem cl_fn {f:Go.Fn} {a b:List V}:cl (V.fn f a b)=[V.fn f a b]:=rfl
@[simp] theorem nt_fn {f:Go.Fn} {a b:List V}:nt (V.fn f a b)=true:=rfl
@[simp] theorem cl_nilfn :cl (V.nilfn)=[V.nilfn]:=rfl
@[simp] theorem nt_nilfn :nt (V.nilfn)=true:=rfl
@[simp] theorem cl_iface {t:TypeId} {x:V}:cl (V.iface t x)=[V.iface t x]:=rfl
@[simp] theorem nt_iface {t:TypeId} {x:V}:nt (V.iface t x)=true:=rfl
@[simp] theorem Wt :cl (V.niliface)=[V.niliface]:=rfl
@[simp] theorem Wr :nt (V.niliface)=true:=rfl
@[simp] theorem cl_tup {l:List V}:cl (V.tup l)=[V.tup l]:=rfl
@[simp] theorem nt_tup {l:List V}:nt (V.tup l)=false:=rfl
@[simp] theorem cl_junk :cl (V.junk)=[V.junk]:=rfl
@[simp] theorem nt_junk :nt (V.junk)=true:=rfl
@[simp] theorem cl_strct {l:List V}:cl (.strct l)=l:=rfl
@[simp] theorem nt_strct {l:List V}:nt (.strct l)=true:=rfl
theorem Fn.toH{P:Program}{f:FuncId}{us:List V}{r:V}(h:Fn P f us r)(hu:ak us=[])(hp:purs [] us=some us):FnH P f [] us [] r []:=by
 intro M w κ cs J hJC hp hus o a Nx Q hN
 have hus2:ae M NX us cs.toList:=by
  have H:Rel 0 M (cg κ [] w [] cs J) w κ M ⟨[],[]⟩ { tmps:=#[],defers:=[] } w:=
   { dfr:=rfl,jst:=hp.jst,pin:=fun i hi=>(by cases hi),size:=rfl,regs:=fun t v ht=>(by simp[lk]at ht),heap:=hp.heap,inj:=hp.inj,snd:=hp.snd,sep:=hp.sep
     sub:=⟨fun _ _ h=>h,hp.fmS,fun _ _ _=>zBj _,zBj _,hp.gl⟩,new:=fun _ _ h=>.inl h,base:=rfl,blw:=Und.refl _ _ }
  exact bo H (fun _ _ h=>h) (fun id hid=>by rw[hu]at hid;cases hid) hus ‹_›
 refine h M w cs ⟨hp.snd,hp.gl⟩ hus2 o a Nx Q ?_;intro c M' w' h1 h2 h3 h4 h5;refine hN c M' w' ⟨fun _=>undef,fun _ _=>undef,fun _ _=>False,fun _=>none⟩ (aB h1) (Und.of_below h2 (zAc _)) ?_ h4 (fun p v hv=>(h5 p v hv).imp_right Or.inl) (fun i hi=>by cases hi)
 exact{ heap:=fun id ob h=>by simp at h,inj:=fun i j oi oj g h=>by simp at h,snd:=h3,sep:=fun p v _ id ob h=>by simp at h,fmS:=fun _ _ h=>(by cases h),gl:=hp.gl.mono h4,jst:=hp.jst }
mutual
def rxV:Rx->V
 | .set bs=>.iface tm (.strct (bs.map .bool))
 | .seq l=>.iface tp (.strct [.seq 1 (Oa l)])
 | .alt l=>.iface tr (.strct [.seq 1 (Oa l)])
 | .rep p op=>.iface tq (.strct [(rxV p),.int .u8 op])
def Oa:List Rx->List V
 |[]=>[]
 |p::l=>(rxV p)::Oa l
end
theorem yM:∀l:List Rx,Oa l=l.map rxV
 |[]=>by simp[Oa]
 |p::l=>by simp[Oa,yM l]
def rxP(x:Rx):V:=.sptr (.strct [rxV x]) 0
theorem KN(x:Rx):∃t y,rxV x=V.iface t y:=by cases x<;>(simp only[rxV];exact⟨_,_,rfl⟩)
def Md:Rx:=.set (zAg 95 false)
def ku(c:Nat):List Bool:=(zAg 95 false).set c true
def Oe:List Rx->Rx
 |[p]=>p
 |l=>.seq l
def jx:List Rx->Rx
 |[]=>Md
 |[p]=>p
 |l=>.alt l
@[simp high] theorem cl_rx (x:Rx):cl (rxV x)=[rxV x]:=by obtain⟨t,y,h⟩:=(KN x);rw[h];rfl
@[simp high] theorem cl_rxp (x:Rx):cl (rxP x)=[(rxP x)]:=rfl
@[simp] theorem nt_rx (x:Rx):nt (rxV x)=true:=by obtain⟨t,y,h⟩:=(KN x);rw[h];rfl
@[simp] theorem nt_rxp (x:Rx):nt (rxP x)=true:=rfl
mutual
theorem KL:∀(x:Rx)(h:List (Option Ob)),pur h (rxV x)=some (rxV x)
 | .set bs,h=>by
   have:∀l:List Bool,purs h (l.map .bool)=some (l.map .bool):=fun l=>by induction l<;>simp[purs,pur, *]
   simp only[rxV,pur,this,Option.map_some]
 | .seq l,h=>by simp[rxV,pur,purs]
 | .alt l,h=>by simp[rxV,pur,purs]
 | .rep p op,h=>by simp[rxV,pur,purs,KL p h]
end
mutual
theorem EY:∀(x:Rx),aA (rxV x)=[]
 | .set bs=>by
   have:∀l:List Bool,ak (l.map .bool)=[]:=fun l=>by induction l<;>simp[ak,aA, *]
   simp only[rxV,aA,this]
 | .seq l=>by simp[rxV,aA,ak]
 | .alt l=>by simp[rxV,aA,ak]
 | .rep p op=>by simp[rxV,aA,ak,EY p]
end
mutual
theorem KJ:∀(x:Rx)(m:List Nat),ren m (rxV x)=(rxV x)
 | .set bs,m=>by
   have:∀l:List Bool,dO m (l.map .bool)=l.map .bool:=fun l=>by induction l<;>simp[dO,ren, *]
   simp only[rxV,ren,this]
 | .seq l,m=>by simp[rxV,ren,dO]
 | .alt l,m=>by simp[rxV,ren,dO]
 | .rep p op,m=>by simp[rxV,ren,dO,KJ p m]
end
mutual
theorem KM:∀(x:Rx)(m:List Nat),bck m (rxV x)=(rxV x)
 | .set bs,m=>by
   have:∀l:List Bool,lI m (l.map .bool)=l.map .bool:=fun l=>by induction l<;>simp[lI,bck, *]
   simp only[rxV,bck,this]
 | .seq l,m=>by simp[rxV,bck,lI]
 | .alt l,m=>by simp[rxV,bck,lI]
 | .rep p op,m=>by simp[rxV,bck,lI,KM p m]
end
attribute [simp] KL EY KJ KM
theorem kF(x:Rx):∃t y,rxV x=.iface t y/\(∀h,pur h y=some y)/\aA y=[]/\(∀m,ren m y=y)/\∀m,bck m y=y:=by
 obtain⟨t,y,h⟩:=KN x;have h1:=fun hh=>KL x hh;have h2:=EY x;have h3:=fun m=>KJ x m;have h4:=fun m=>KM x m;rw[h]at h1 h2 h3 h4;refine⟨t,y,h,fun hh=>?_,h2,fun m=>?_,fun m=>?_⟩
 ·have:=h1 hh
  simp only[pur]at this;obtain⟨u,g1,g2⟩:=zBe.1 this;cases g2;exact g1
 ·have:=h3 m;simp only[ren]at this;exact(V.iface.inj this).2
 ·have:=h4 m;simp only[bck]at this;exact(V.iface.inj this).2
@[simp] theorem rxp_pur (x:Rx) (h:List (Option Ob)):pur h (rxP x)=some (rxP x):=rfl
@[simp] theorem rxp_vids (x:Rx):aA (rxP x)=[]:=rfl
@[simp] theorem rxp_ren (x:Rx) (m:List Nat):ren m (rxP x)=(rxP x):=rfl
@[simp] theorem rxp_bck (x:Rx) (m:List Nat):bck m (rxP x)=(rxP x):=rfl
theorem C3(x:Rx):Fn Tryz.prog rj [(rxP x)] (rxV x):=by
 refine yoA rn ?_;obtain⟨t,y,h,h1,h2,h3,h4⟩:=kF x;simp(disch:=omega) [-zAa,rxP,h,h1,St.isNil]
def YH(s:Str):Rx:=Oe (s.map fun c=>.set (ku (c.toNat-32)))
end Go.Abs
end
section
namespace Go.Abs
open Go.Proofs Go.Aut
attribute [-simp] getElem?_pos zBh zCf cl nt
@[simp] def vI (j:Job):V:=.strct [rxV j.p,nV j.fr,nV j.tyo]
def MK(n:Nat)(E:List NEdge)(W:List Job):List (Option Ob):=[some (.box [nV n,.ref 1 E.length,.ref 2 W.length]),some (.arr b6 4 (E.map NEdge.v)),some (.arr cw 3 (W.map vI))]
theorem eD(n:Nat)(E:List NEdge)(W:List Job)(x:Rx)(fr tyo:Nat)(hW:W.length<=1000000):FnH Tryz.prog eM [0] [.ptr 0 0,rxV x,nV fr,nV tyo] (MK n E W) (.tup []) (MK n E (W++[⟨x,fr,tyo⟩])):=by
 refine yoH eO ?_;obtain⟨t,y,h,h1,h2,h3,h4⟩:=kF x;simp(disch:=omega) [-zAa,MK,h,h1,h2,h3]
theorem Dc(n:Nat)(x:Rx)(fr tyo:Nat):FnH Tryz.prog eM [0] [.ptr 0 0,rxV x,nV fr,nV tyo] [some (.box [nV n,.nil 4,.nil 3])] (.tup []) [some (.box [nV n,.nil 4,.ref 1 1]),some (.arr cw 3 [vI ⟨x,fr,tyo⟩])]:=by
 refine yoH eO ?_;obtain⟨t,y,h,h1,h2,h3,h4⟩:=kF x;simp(disch:=omega) [-zAa,h,h1,h2,h3]
theorem gP(n:Nat)(E:List NEdge)(W:List Job)(hn:n<=1000000):FnH Tryz.prog ig [0] [.ptr 0 0] (MK n E W) (nV n) (MK (n+1) E W):=by
 refine yoH il ?_;simp(disch:=omega) [-zAa,MK]
theorem du(n:Nat)(E:List NEdge)(W:List Job)(fr tyo:Nat)(hE:E.length<=1000000):FnH Tryz.prog i3 [0] [.ptr 0 0,nV fr,nV tyo] (MK n E W) (.tup []) (MK n (E++[Aut.fre fr tyo]) W):=by
 refine yoH i7 ?_;simp(disch:=omega) [-zAa,MK,Aut.fre,NEdge.v]
theorem Pa(bs:List Bool)(hb:bs.length=95)(i:Nat)(hi:i<95):FnH Tryz.prog lQ [0] [.ptr 0 0,nV i] [some (.box (bs.map .bool))] (nV (nQ bs 95 i)) [some (.box (bs.map .bool))]:=by
 refine yoH lU ?_;simp(disch:=omega) [-zAa];obtain⟨R,hR⟩:∃R,R=nQ bs 95 i:=⟨_,rfl⟩;rw[<-hR];refine au (fun(x:Nat×Nat)=>⟨[(0,.ptr 0 0),(1,nV x.2)],[some (.box (bs.map .bool))]⟩) (fun x=>x.2<95/\95<=x.1+x.2/\nQ bs x.1 x.2=R) (fun x=>x.1) [] _ (95,i) rfl (by simp) ⟨hi,by simp,by simp[hR]⟩ ?_
 rintro⟨f,k⟩ ⟨hk,hf,hr⟩ N hN;simp only at hk hf hr;obtain⟨f,rfl⟩:∃g,f=g+1:=⟨f-1,by omega⟩
 simp only[nQ]at hr;rcases zBb (k+1) 95 with h1|h1
 ·obtain⟨b,hb1⟩:=bq (l:=bs) (k:=k+1) (by omega)
  have e1:((k:Int)+1).toNat=k+1:=by omega
  have e0:cut (bs.map V.bool) (k+1) 1=some [.bool b]:=by
   unfold cut;have hd:=zBa (l:=bs.map V.bool) (i:=k+1) (by simp;omega)
   rw[if_pos (by simp;omega),hd]
   have hg:=(zAh.1 hb1).2;simp[hg]
  cases b with
  |true=>
    rw[if_pos ⟨h1,hb1⟩]at hr;simp(disch:=omega) [-zAa,e1,e0,-cut];exact hN.out _<|Nx.mk (f,k+1) (by simp) ⟨by simp only;omega,by simp only;omega,hr⟩ (by simp only;omega)
  |false=>
    rw[if_neg (by rw[hb1];simp)]at hr
    subst hr;simp(disch:=omega) [-zAa,e1,e0,-cut]
 ·rw[if_neg (by omega)]at hr
  subst hr;simp(disch:=omega) [-zAa,h1]
theorem Pb(bs:List Bool)(hb:bs.length=95)(n fr tyo:Nat)(E:List NEdge)(W:List Job)(hE:E.length<=1000000):
 FnH Tryz.prog nh [1] [.strct (bs.map .bool),.ptr 0 0,nV fr,nV tyo] (MK n E W) (.tup []) (MK n (E++UL bs fr tyo) W):=by
 refine yoH nn ?_;obtain⟨R,hR⟩:∃R,R=E++UL bs fr tyo:=⟨_,rfl⟩;rw[<-hR];simp(disch:=omega) [-zAa,MK]
 refine au (fun(x:Nat×Nat×List NEdge)=>⟨[(1,.ptr 0 0),(2,nV fr),(3,nV tyo),(4,.ptr 1 0),(8,nV x.2.1)],[some (.box [nV n,.ref 2 x.2.2.length,.ref 3 W.length]),some (.box (bs.map .bool)),some (.arr b6 4 (x.2.2.map NEdge.v)),some (.arr cw 3 (W.map vI))]⟩)
  (fun x=>x.2.1<=95/\95<=x.1+x.2.1/\x.2.2.length<=1000000+x.2.1/\x.2.2++kE bs fr tyo x.1 x.2.1=R) (fun x=>95-x.2.1) [] _ (95,0,E) rfl (by simp) ⟨by simp,by simp,by simp only;omega,by simp[hR,UL]⟩ ?_
 rintro⟨f,k,E1⟩ ⟨hk,hf,hl,hr⟩ N hN;simp only at hk hf hl hr;rcases zBb k 95 with h1|h1
 ·obtain⟨f,rfl⟩:∃g,f=g+1:=⟨f-1,by omega⟩
  simp only[kE,if_pos h1]at hr;obtain⟨b,hb1⟩:=bq (l:=bs) (k:=k) (by omega)
  have e0:cut (bs.map V.bool) k 1=some [.bool b]:=by
   unfold cut;have hd:=zBa (l:=bs.map V.bool) (i:=k) (by simp;omega)
   rw[if_pos (by simp;omega),hd]
   have hg:=(zAh.1 hb1).2;simp[hg]
  cases b with
  |true=>
    rw[if_pos hb1]at hr;obtain⟨g1,g2,_⟩:=vt bs 95 k h1 hb1;have e1:((32:Int)+(nQ bs 95 k:Nat)).toNat=32+nQ bs 95 k:=by omega
    simp(disch:=omega) [-zAa,e0,-cut];refine ar [0] 1 [1] (by simp) (by simp) (by simp) (by simp) (Pa bs hb k h1) (by simp) fun _ _=>?_
    generalize hq:nQ bs 95 k=q at *;simp(disch:=omega) [-zAa];exact hN.out _<|Nx.mk (f,q+1,E1++[⟨fr,tyo,32+k,32+q⟩]) (by simp[NEdge.v]) ⟨by simp only;omega,by simp only;omega,by simp;omega,by simpa using hr⟩ (by simp only;omega)
  |false=>
    rw[if_neg (by rw[hb1];simp)]at hr
    simp(disch:=omega) [-zAa,e0,-cut];exact hN.out _<|Nx.mk (f,k+1,E1) (by simp) ⟨by simp only;omega,by simp only;omega,by simp only;omega,hr⟩ (by simp only;omega)
 ·have:k=95:=by omega
  subst this;have:kE bs fr tyo f 95=[]:=by cases f<;>simp[kE]
  rw[this,zAb]at hr;subst hr;simp(disch:=omega) [-zAa]
theorem Pc(l:List Rx)(hl:l.length<=100000)(n fr tyo:Nat)(E:List NEdge)(W:List Job)(hn:n<=100000)(hE:E.length<=1000000)(hW:W.length<=500000):
 FnH Tryz.prog ni [1] [.strct [.seq 1 (l.map rxV)],.ptr 0 0,nV fr,nV tyo] (MK n E W) (.tup []) (MK (bf ⟨.seq l,fr,tyo⟩ n).1 (E++(bf ⟨.seq l,fr,tyo⟩ n).2.1) (W++(bf ⟨.seq l,fr,tyo⟩ n).2.2)):=by
 refine yoH np ?_;cases l with
 |nil=>
   simp only[bf,zAb];simp(disch:=omega) [-zAa,MK];refine ar [0] 1 [0,1,2] (by simp) (by simp) (by simp) (by simp[MK]) (du n E W fr tyo hE) (by simp[MK]) fun _ _=>?_
   simp(disch:=omega) [-zAa,MK,Aut.fre,NEdge.v]
 |cons p l=>
   have hl2:l.length<=99999:=by simp only[zBc]at hl;omega
   clear hl;simp only[bf,zAb];obtain⟨R,hR⟩:∃R,R=W++jK tyo p l fr n:=⟨_,rfl⟩;rw[<-hR];obtain⟨ps,hps⟩:∃ps,ps=p::l:=⟨_,rfl⟩;have hpl:ps.length=l.length+1:=by simp[hps]
   rw[<-hps];have htk:(ps.take l.length).map rxV=(ps.map rxV).take l.length:=by rw[List.map_take]
   have hv:ct .sub .i64 ((l.length:Int)+1) 1=some (.int .i64 l.length):=by simp(disch:=omega) [ct,mg]
   simp(disch:=omega) [-zAa,MK,hpl,hv]
   have hjl:∀(l:List Rx)(p:Rx)(fr n:Nat),(jK tyo p l fr n).length=l.length+1:=fun l=>by
    induction l with
    |nil=>intro p fr n;simp[jK]
    |cons q l ih=>intro p fr n;simp[jK,ih]
   have hRl:R.length=W.length+(l.length+1):=by rw[hR];simp[hjl]
   refine au (fun(x:Nat×Nat×List Job)=>⟨[(1,.ptr 0 0),(2,nV x.2.1),(3,nV tyo),(4,.ptr 1 0),(8,nV l.length),(27,.seq 1 ((ps.map rxV).take l.length)),(28,nV l.length),(29,nV x.1)],
    [some (.box [nV (n+x.1),.ref 2 E.length,.ref 3 x.2.2.length]),some (.box [.seq 1 (ps.map rxV)]),some (.arr b6 4 (E.map NEdge.v)),some (.arr cw 3 (x.2.2.map vI))]⟩)
    (fun x=>x.1<=l.length/\∃a rest,ps.drop x.1=a::rest/\x.2.2++jK tyo a rest x.2.1 (n+x.1)=R) (fun x=>l.length-x.1) [] _ (0,fr,W) rfl (by simp) ⟨by simp,p,l,by simp[hps],by simp[hR]⟩ ?_
   rintro⟨k,f,W1⟩ ⟨hk,a,rest,hd,hr⟩ N hN;simp only at hk hd hr;have hdl:=congrArg List.length hd;simp[hpl]at hdl
   have hpa:ps[k]?=some a:=by
    have:=congrArg (·[0]?) hd;simpa[List.getElem?_drop]using this
   have hpt:((ps.map rxV).take l.length)[k]?=if k<l.length then some (rxV a)else none:=by
    rw[List.getElem?_take];split
    ·rw[zBi,hpa];rfl
    ·rfl
   have hWl:W1.length<=R.length:=by rw[<-hr];simp
   have hWl2:W1.length<=700000:=by omega
   clear hWl;obtain⟨t,y,h,h1,h2,h3,h4⟩:=kF a;rcases zBb k l.length with hlt|hge
   ·obtain⟨b,rest2,rfl⟩:∃b rest2,rest=b::rest2:=by
     cases rest with
     |nil=>simp at hdl;omega
     |cons b r=>exact⟨b,r,rfl⟩
    have hd2:ps.drop (k+1)=b::rest2:=by
     have:=congrArg List.tail hd;simpa[List.tail_drop]using this
    simp only[jK]at hr;rw[if_pos hlt]at hpt;simp(disch:=omega) [-zAa,hpt];refine ar [0] 1 [0,2,3] (by simp) (by simp) (by simp) (by simp[MK]) (gP (n+k) E W1 (by omega)) (by simp[MK]) fun _ _=>?_
    simp(disch:=omega) [-zAa,MK];refine ar [0] 1 [0,4,5] (by simp) (by simp) (by simp) (by simp[MK]) (eD (n+k+1) E W1 a f (n+k) (by omega)) (by simp[MK]) fun _ _=>?_
    simp(disch:=omega) [-zAa,MK];exact hN.out _<|Nx.mk (k+1,n+k,W1++[⟨a,f,n+k⟩]) (by simp(disch:=omega) [zCd];omega) ⟨by simp only;omega,b,rest2,hd2,by simpa[zCd]using hr⟩ (by simp only;omega)
   ·have hkk:k=l.length:=by omega
    subst hkk
    have:rest=[]:=by
     cases rest with
     |nil=>rfl
     |cons b r=>simp at hdl
    subst this;simp only[jK]at hr;subst hr;simp(disch:=omega) [-zAa,hpa];refine ar [0] 1 [0,2,3] (by simp) (by simp) (by simp) (by simp[MK]) (eD (n+l.length) E W1 a f tyo (by omega)) (by simp[MK]) fun _ _=>?_
    simp(disch:=omega) [-zAa,MK]
theorem Pf(l:List Rx)(hl:l.length<=100000)(n fr tyo:Nat)(E:List NEdge)(W:List Job)(hW:W.length<=500000):
 FnH Tryz.prog nk [1] [.strct [.seq 1 (l.map rxV)],.ptr 0 0,nV fr,nV tyo] (MK n E W) (.tup []) (MK n E (W++l.map fun p=>⟨p,fr,tyo⟩)):=by
 refine yoH nr ?_;obtain⟨ps,hps⟩:∃ps:List Job,ps=l.map fun p=>⟨p,fr,tyo⟩:=⟨_,rfl⟩;rw[<-hps];have hpl:ps.length=l.length:=by simp[hps]
 simp(disch:=omega) [-zAa,MK]
 refine au (fun(k:Nat)=>⟨[(1,.ptr 0 0),(2,nV fr),(3,nV tyo),(11,.seq 1 (l.map rxV)),(12,nV l.length),(13,nV k)],
  [some (.box [nV n,.ref 1 E.length,.ref 2 (W++ps.take k).length]),some (.arr b6 4 (E.map NEdge.v)),some (.arr cw 3 ((W++ps.take k).map vI))]⟩)
  (fun k=>k<=l.length) (fun k=>l.length-k) [] _ 0 rfl (by simp) (by simp) ?_
 intro k hk N hN;rcases zBb k l.length with hlt|hge
 ·obtain⟨a,ha⟩:=bq hlt
  have hpa:ps[k]?=some ⟨a,fr,tyo⟩:=by rw[hps,zBi,ha];rfl
  obtain⟨t,y,h,h1,h2,h3,h4⟩:=kF a;have hwl:(W++ps.take k).length<=1000000:=by simp;omega
  have e:W++ps.take (k+1)=(W++ps.take k)++[⟨a,fr,tyo⟩]:=by rw[c5 hpa,zAf]
  generalize W++ps.take k=W1 at *;simp(disch:=omega) [-zAa,ha];refine ar [0] 1 [0,1,2] (by simp) (by simp) (by simp) (by simp[MK]) (eD n E W1 a fr tyo hwl) (by simp[MK]) fun _ _=>?_
  simp(disch:=omega) [-zAa,MK];exact hN.out _<|Nx.mk (k+1) (by simp[e]) (by omega) (by omega)
 ·have hkk:k=l.length:=by omega
  subst hkk;have e:ps.take l.length=ps:=List.take_of_length_le (by omega)
  simp(disch:=omega) [-zAa,e]
theorem Pd(p:Rx)(op:Nat)(n fr tyo:Nat)(E:List NEdge)(W:List Job)(hn:n<=100000)(hE:E.length<=500000)(hW:W.length<=500000):
 FnH Tryz.prog nj [1] [.strct [rxV p,.int .u8 op],.ptr 0 0,nV fr,nV tyo] (MK n E W) (.tup []) (MK (bf ⟨.rep p op,fr,tyo⟩ n).1 (E++(bf ⟨.rep p op,fr,tyo⟩ n).2.1) (W++(bf ⟨.rep p op,fr,tyo⟩ n).2.2)):=by
 refine yoH nq ?_;obtain⟨t,y,h,h1,h2,h3,h4⟩:=kF p;by_cases h63:op=63
 ·subst h63
  simp only[bf,if_true];simp(disch:=omega) [-zAa,MK];refine ar [0] 1 [0,1,2] (by simp) (by simp) (by simp) (by simp[MK]) (du n E W fr tyo (by omega)) (by simp[MK]) fun _ _=>?_
  simp(disch:=omega) [-zAa,MK];refine ar [0] 1 [0,4,5] (by simp) (by simp) (by simp) (by simp[MK]) (eD n (E++[Aut.fre fr tyo]) W p fr tyo (by omega)) (by simp[MK]) fun _ _=>?_
  simp(disch:=omega) [-zAa,MK]
 ·by_cases h42:op=42
  ·subst h42
   simp only[bf,if_true,if_neg (show ¬(42:Nat)=63 by omega)]
   simp(disch:=omega) [-zAa,MK];refine ar [0] 1 [0,1,2] (by simp) (by simp) (by simp) (by simp[MK]) (gP n E W (by omega)) (by simp[MK]) fun _ _=>?_
   simp(disch:=omega) [-zAa,MK];refine ar [0] 1 [0,4,5] (by simp) (by simp) (by simp) (by simp[MK]) (du (n+1) E W fr n (by omega)) (by simp[MK]) fun _ _=>?_
   simp(disch:=omega) [-zAa,MK];refine ar [0] 1 [0,6,7] (by simp) (by simp) (by simp) (by simp[MK]) (eD (n+1) (E++[Aut.fre fr n]) W p n n (by omega)) (by simp[MK]) fun _ _=>?_
   simp(disch:=omega) [-zAa,MK];refine ar [0] 1 [0,8,9] (by simp) (by simp) (by simp) (by simp[MK]) (du (n+1) (E++[Aut.fre fr n]) (W++[⟨p,n,n⟩]) n tyo (by simp;omega)) (by simp[MK]) fun _ _=>?_
   simp(disch:=omega) [-zAa,MK]
  ·simp only[bf,if_neg h63,if_neg h42]
   have z63:¬((op:Int)=63):=by omega
   have z42:¬((op:Int)=42):=by omega
   simp(disch:=omega) [-zAa,MK,z63,z42];refine ar [0] 1 [0,1,2] (by simp) (by simp) (by simp) (by simp[MK]) (gP n E W (by omega)) (by simp[MK]) fun _ _=>?_
   simp(disch:=omega) [-zAa,MK];refine ar [0] 1 [0,4,5] (by simp) (by simp) (by simp) (by simp[MK]) (gP (n+1) E W (by omega)) (by simp[MK]) fun _ _=>?_
   simp(disch:=omega) [-zAa,MK];refine ar [0] 1 [0,6,7] (by simp) (by simp) (by simp) (by simp[MK]) (du (n+1+1) E W fr n (by omega)) (by simp[MK]) fun _ _=>?_
   simp(disch:=omega) [-zAa,MK];refine ar [0] 1 [0,8,9] (by simp) (by simp) (by simp) (by simp[MK]) (eD (n+1+1) (E++[Aut.fre fr n]) W p n (n+1) (by omega)) (by simp[MK]) fun _ _=>?_
   simp(disch:=omega) [-zAa,MK];refine ar [0] 1 [0,10,11] (by simp) (by simp) (by simp) (by simp[MK]) (du (n+1+1) (E++[Aut.fre fr n]) (W++[⟨p,n,n+1⟩]) (n+1) n (by simp;omega)) (by simp[MK]) fun _ _=>?_
   simp(disch:=omega) [-zAa,MK];refine ar [0] 1 [0,12,13] (by simp) (by simp) (by simp) (by simp[MK]) (du (n+1+1) (E++[Aut.fre fr n]++[Aut.fre (n+1) n]) (W++[⟨p,n,n+1⟩]) (n+1) tyo (by simp;omega)) (by simp[MK]) fun _ _=>?_
   simp(disch:=omega) [-zAa,MK];omega
theorem DD(x:Rx):1<=dY x:=by cases x<;>simp only[dY]<;>omega
theorem sf:∀l:List Rx,l.length<=fJ l
 |[]=>by simp[fJ]
 |p::l=>by have h1:=DD p;have h2:=sf l;simp only[fJ,zBc];omega
theorem Dm:∀l:List Job,l.length<=bw l
 |[]=>by simp[bw]
 |p::l=>by have h1:=DD p.p;have h2:=Dm l;simp only[bw,zBc];omega
theorem wtrc{Φ:Ctr}{d:Option Nat}{x hi:AO}{sz id n:Nat}{k:IntKind}{b:Int}{e:Nat}{l:List V}{K:St->Prop}{σ:St}(hx:σ.ev x=some (.ref id n))(hb:σ.ev hi=some (.int k b))(ha:σ.arr? id=some (e,sz,l))(hn:n=l.length)(h0:0<=b)(hbn:b<=n)
 (h:K (St.put { σ with h:=σ.h.set id none++[some (Ob.arr e sz (l.take b.toNat))] } d (.ref σ.h.length b.toNat))):af Φ d (.trc x hi sz) K σ:=by
 simp only[af,hx,hb,ha];exact⟨trivial,hn,h0,hbn,h⟩
theorem f_Net(x:Rx)(N0:Net)(hx:wfR x=true)(hN0:Ik x=some N0)(hs:dY x<=2000)(hfr:fresh x<=2000):Fn Tryz.prog dt [rxP x] (.strct (Net.c N0)):=by
 refine yoE jV ?_;obtain⟨C,hC⟩:∃C:List V,C=Net.c N0:=⟨_,rfl⟩;rw[<-hC];simp only[Ik,zBe]at hN0;obtain⟨⟨n1,E1⟩,hgo,hN1⟩:=hN0;simp only at hN1;obtain⟨t,y,h,h1,h2,h3,h4⟩:=kF x;simp(disch:=omega) [-zAa];refine ar [] 0 [] (by simp) (by simp) (by simp) (by simp) ((C3 x).toH (by simp[ak]) (by simp[purs])) (by simp) fun _ _=>?_
 simp(disch:=omega) [-zAa];refine ar [0] 1 [1] (by simp) (by simp) (by simp) (by simp) (Dc 2 x 0 1) (by simp) fun _ _=>?_
 simp(disch:=omega) [-zAa]
 refine au (fun(x:Nat×Nat×List NEdge×List Job)=>⟨[(2,.ptr 0 0),(3,.ptr 1 0)],[some (.box [nV 0,nV 0,nV 0,.nil 4]),some (.box [nV x.2.1,.ref 2 x.2.2.1.length,.ref 3 x.2.2.2.length]),some (.arr b6 4 (x.2.2.1.map NEdge.v)),some (.arr cw 3 (x.2.2.2.map vI))]⟩)
  (fun x=>rh x.1 x.2.1 x.2.2.1 x.2.2.2=some (n1,E1)/\x.2.1+a7 x.2.2.2<=2002/\x.2.2.1.length+95*bw x.2.2.2<=190000/\∀j∈x.2.2.2,wfR j.p=true) (fun x=>x.1) [.b 1 1 b6 4] _ (dY x+1,2,[],[⟨x,0,1⟩]) rfl (by simp) ⟨hgo,by simp[a7];omega,by simp[bw];omega,fun j hj=>by simp at hj;subst hj;exact hx⟩ ?_
 rintro⟨f,n,E,W⟩ ⟨hg,hf1,hf2,hw⟩ N hN;simp only at hg hf1 hf2 hw;cases f with
 |zero=>simp[rh]at hg
 |succ f=>
   have hwl:=Dm W;simp only[rh]at hg;cases hl:W.getLast? with
   |none=>
     have:W=[]:=by simpa using hl
     subst this;rw[hl]at hg;simp only[zCg,zCe]at hg;obtain⟨rfl,rfl⟩:=hg;clear hN;simp(disch:=omega) [-zAa];simp[hC,<-hN1]
   |some j=>
     have e:=uq hl;rw[hl]at hg;simp only at hg;obtain⟨W0,hW0⟩:∃W0,W0=W.dropLast:=⟨_,rfl⟩;rw[<-hW0]at e hg;clear hW0 hl;subst e;obtain⟨s1,s2,s3⟩:=Et j n;have hz:bw (W0++[j])=bw W0+dY j.p:=by rw[fF];simp[bw]
     have hz2:bw (W0++(bf j n).2.2)=bw W0+bw (bf j n).2.2:=fF _ _;have hz3:a7 (W0++[j])=a7 W0+fresh j.p:=by rw[eV];simp[a7]
     have hz4:a7 (W0++(bf j n).2.2)=a7 W0+a7 (bf j n).2.2:=eV _ _;have hjm:((W0++[j]).map vI)[W0.length]?=some (vI j):=by rw[List.map_append,List.getElem?_append_right (by simp)];simp
     have htk:((W0++[j]).map vI).take W0.length=W0.map vI:=by simp
     have hln:(W0++[j]).length=W0.length+1:=by simp
     have hv:ct .sub .i64 ((W0.length:Int)+1) 1=some (.int .i64 W0.length):=by simp(disch:=omega) [ct,mg]
     have fin:∀τ:St,τ.nrm [2,3]=⟨[(2,.ptr 0 0),(3,.ptr 1 0)],[some (.box [nV 0,nV 0,nV 0,.nil 4]),some (.box [nV (bf j n).1,.ref 2 (E++(bf j n).2.1).length,.ref 3 (W0++(bf j n).2.2).length]),some (.arr b6 4 ((E++(bf j n).2.1).map NEdge.v)),some (.arr cw 3 ((W0++(bf j n).2.2).map vI))]⟩->N τ:=by
      intro τ hτ;refine hN.out τ<|Nx.mk (f,(bf j n).1,E++(bf j n).2.1,W0++(bf j n).2.2) hτ ⟨hg,by simp only;omega,by simp only[zBg]at hf2⊢;omega,fun k hk=>?_⟩ (by simp only;omega)
      rcases zAe.1 hk with hk|hk
      ·exact hw k (by simp[hk])
      ·exact Np (hw j (by simp)) k hk
     have hwj:=hw j (by simp)
     replace fin:=hid fin;have hEl:E.length<=190000:=by omega
     have hWl:W0.length<=10000:=by rw[hln]at hwl;omega
     have hnl:n<=2002:=by omega
     have hsj:dY j.p<=2000:=by omega
     clear hN s1 s2 s3 hz hz2 hz3 hz4 hw hg hf1 hf2 hwl;obtain⟨p,fr,tyo⟩:=j;obtain⟨t,y,h,h1,h2,h3,h4⟩:=kF p;generalize hWW:W0++[(⟨p,fr,tyo⟩:Job)]=WW at *;simp(disch:=omega) [-zAa,hjm,htk,hln,hv,vI];cases p with
     |set bs=>
       simp only[wfR,decide_eq_true_eq]at hwj;simp only[bf,zAb]at fin;simp(disch:=omega) [-zAa,rxV];refine ar [1] 1 [1,2,5] (by simp) (by simp) (by simp[MK]) (by simp[MK]) (Pb bs hwj n fr tyo E W0 (by omega)) (by simp[MK]) fun _ _=>?_
       simp(disch:=omega) [-zAa,MK];exact fin.out _ (by simp)
     |seq l=>
       have hll:=sf l;simp only[dY]at hsj;have hvs:=yM l;simp(disch:=omega) [-zAa,rxV,hvs];refine ar [1] 1 [1,2,5] (by simp) (by simp) (by simp[MK]) (by simp[MK]) (Pc l (by omega) n fr tyo E W0 (by omega) (by omega) (by omega)) (by simp[MK]) fun _ _=>?_
       simp(disch:=omega) [-zAa,MK];exact fin.out _ (by simp)
     |alt l=>
       have hll:=sf l;simp only[dY]at hsj;have hvs:=yM l;simp only[bf,zAb]at fin;simp(disch:=omega) [-zAa,rxV,hvs];refine ar [1] 1 [1,2,5] (by simp) (by simp) (by simp[MK]) (by simp[MK]) (Pf l (by omega) n fr tyo E W0 (by omega)) (by simp[MK]) fun _ _=>?_
       simp(disch:=omega) [-zAa,MK];exact fin.out _ (by simp)
     |rep p op=>
       simp(disch:=omega) [-zAa,rxV];refine ar [1] 1 [1,2,5] (by simp) (by simp) (by simp[MK]) (by simp[MK]) (Pd p op n fr tyo E W0 (by omega) (by omega) (by omega)) (by simp[MK]) fun _ _=>?_
       simp(disch:=omega) [-zAa,MK];exact fin.out _ (by simp)
def PL:List Bool:=zAg 95 true
def Rz(c:Nat):List Bool:=PL.set c false
def digS:List Bool:=zAg 16 false++zAg 10 true++zAg 69 false
def rx0:Rx:=.rep (.set (ku 65)) 42
def rx1:Rx:=.rep (.alt [(.set (ku 65)),(.set (ku 66))]) 43
def rx2:Rx:=.rep (.set digS) 43
def rx3:Rx:=.seq [(.set (ku 88)),.set PL,(.set (ku 89))]
def rx4:Rx:=.rep (.set (Rz 65)) 42
def rx5:Rx:=.seq []
def rx6:Rx:=.alt [(.set (ku 65)),.seq [(.set (ku 66)),(.set (ku 66))],(.set (ku 67))]
def rx7:Rx:=.rep (.set PL) 42
def rx8:Rx:=.rep (.set (Rz 26)) 42
def iW:List (Str×Rx):=[([97,42],rx0),([40,97,124,98,41,43],rx1),([91,48,45,57,93,43],rx2),([120,46,121],rx3),([91,94,97,93,42],rx4),([],rx5),([97,124,98,98,124,99],rx6),([46,42],rx7),([91,94,58,93,42],rx8)]
theorem Yb:(n6 yG 300 16).h aF [.str [97,42]] []=some (.tup [.ptr 0 0,.int .i64 0],[some (.box [(rxV rx0)])]):=by kernel_rfl
theorem L3:Fn Tryz.prog aF [.str [97,42]] (.tup [rxP rx0,.int .i64 0]):=
 ((bM mixed jm 300 16).h _ _ _ _ _ _ (by kernel_rfl) Yb).boxed2 (cs':=[rxV rx0]) (by simp[cI]) rfl (by kernel_rfl)
theorem Ya:(n6 yG 300 16).h aF [.str [40,97,124,98,41,43]] []=some (.tup [.ptr 0 0,.int .i64 0],[some (.box [(rxV rx1)])]):=by kernel_rfl
theorem L1:Fn Tryz.prog aF [.str [40,97,124,98,41,43]] (.tup [rxP rx1,.int .i64 0]):=
 ((bM mixed jm 300 16).h _ _ _ _ _ _ (by kernel_rfl) Ya).boxed2 (cs':=[rxV rx1]) (by simp[cI]) rfl (by kernel_rfl)
theorem X9:(n6 yG 300 16).h aF [.str [91,48,45,57,93,43]] []=some (.tup [.ptr 0 0,.int .i64 0],[some (.box [(rxV rx2)])]):=by kernel_rfl
theorem L0:Fn Tryz.prog aF [.str [91,48,45,57,93,43]] (.tup [rxP rx2,.int .i64 0]):=
 ((bM mixed jm 300 16).h _ _ _ _ _ _ (by kernel_rfl) X9).boxed2 (cs':=[rxV rx2]) (by simp[cI]) rfl (by kernel_rfl)
theorem X8:(n6 yG 300 16).h aF [.str [120,46,121]] []=some (.tup [.ptr 0 0,.int .i64 0],[some (.box [(rxV rx3)])]):=by kernel_rfl
theorem LZ:Fn Tryz.prog aF [.str [120,46,121]] (.tup [rxP rx3,.int .i64 0]):=
 ((bM mixed jm 300 16).h _ _ _ _ _ _ (by kernel_rfl) X8).boxed2 (cs':=[rxV rx3]) (by simp[cI]) rfl (by kernel_rfl)
theorem X7:(n6 yG 300 16).h aF [.str [91,94,97,93,42]] []=some (.tup [.ptr 0 0,.int .i64 0],[some (.box [(rxV rx4)])]):=by kernel_rfl
theorem LY:Fn Tryz.prog aF [.str [91,94,97,93,42]] (.tup [rxP rx4,.int .i64 0]):=
 ((bM mixed jm 300 16).h _ _ _ _ _ _ (by kernel_rfl) X7).boxed2 (cs':=[rxV rx4]) (by simp[cI]) rfl (by kernel_rfl)
theorem X6:(n6 yG 300 16).h aF [.str []] []=some (.tup [.ptr 0 0,.int .i64 0],[some (.box [(rxV rx5)])]):=by kernel_rfl
theorem LX:Fn Tryz.prog aF [.str []] (.tup [rxP rx5,.int .i64 0]):=
 ((bM mixed jm 300 16).h _ _ _ _ _ _ (by kernel_rfl) X6).boxed2 (cs':=[rxV rx5]) (by simp[cI]) rfl (by kernel_rfl)
theorem X5:(n6 yG 300 16).h aF [.str [97,124,98,98,124,99]] []=some (.tup [.ptr 0 0,.int .i64 0],[some (.box [(rxV rx6)])]):=by kernel_rfl
theorem LW:Fn Tryz.prog aF [.str [97,124,98,98,124,99]] (.tup [rxP rx6,.int .i64 0]):=
 ((bM mixed jm 300 16).h _ _ _ _ _ _ (by kernel_rfl) X5).boxed2 (cs':=[rxV rx6]) (by simp[cI]) rfl (by kernel_rfl)
theorem X4:(n6 yG 300 16).h aF [.str [46,42]] []=some (.tup [.ptr 0 0,.int .i64 0],[some (.box [(rxV rx7)])]):=by kernel_rfl
theorem LU:Fn Tryz.prog aF [.str [46,42]] (.tup [rxP rx7,.int .i64 0]):=
 ((bM mixed jm 300 16).h _ _ _ _ _ _ (by kernel_rfl) X4).boxed2 (cs':=[rxV rx7]) (by simp[cI]) rfl (by kernel_rfl)
theorem X3:(n6 yG 300 16).h aF [.str [91,94,58,93,42]] []=some (.tup [.ptr 0 0,.int .i64 0],[some (.box [(rxV rx8)])]):=by kernel_rfl
theorem LT:Fn Tryz.prog aF [.str [91,94,58,93,42]] (.tup [rxP rx8,.int .i64 0]):=
 ((bM mixed jm 300 16).h _ _ _ _ _ _ (by kernel_rfl) X3).boxed2 (cs':=[rxV rx8]) (by simp[cI]) rfl (by kernel_rfl)
theorem VA{s:Str}{x:Rx}(h:(s,x)∈iW):Fn Tryz.prog aF [.str s] (.tup [rxP x,.int .i64 0]):=by
 simp only[iW,zAj,zCe,List.not_mem_nil,or_false]at h;rcases h with⟨rfl,rfl⟩|⟨rfl,rfl⟩|⟨rfl,rfl⟩|⟨rfl,rfl⟩|⟨rfl,rfl⟩|⟨rfl,rfl⟩|⟨rfl,rfl⟩|⟨rfl,rfl⟩|⟨rfl,rfl⟩
 ·exact L3
 ·exact L1
 ·exact L0
 ·exact LZ
 ·exact LY
 ·exact LX
 ·exact LW
 ·exact LU
 ·exact LT
def Lj(e:Str)(w:Str):Rx:=YH (w++e)
def XW(ws:List Str):Rx:=jx [rx8,Oe [jx (ws.map (Lj [58])),rx7]]
end Go.Abs
end
