/- Expressions as trees, plainly: what they match, and how their nets come to be, part by part. No condition. -/
import Derived.Test.YtedmnakfknbabaaGreatDoorATh3
import Derived.Test.YtedmnakfknbabaaGreatDoorATh4
import Derived.Test.YtedmnakfknbabaaGreatDoorACodeA
import Derived.Test.YtedmnakfknbabaaGreatDoorAF1
set_option linter.all false
set_option maxHeartbeats 0
set_option maxRecDepth 100000
open List renaming reduceReplicate→zAa,append_nil→zAb,mem_append_left→zAd,mem_append→zAe,append_assoc→zAf,replicate→zAg,getElem?_eq_some_iff→zAh,mem_append_right→zAi,mem_cons→zAj,drop_eq_getElem_cons→zBa,length_cons→zBc,length_append→zBg,getElem?_map→zBi,cons_append→zCb,map_cons→zCc,map_map→zCf
open Nat renaming le_refl→zAc,lt_or_ge→zBb,le_succ→zBd,eq_or_lt_of_le→zBf,zero_le→zBj,add_assoc→zCd
open Option renaming map_eq_some_iff→zBe,not_isSome→zBh
open Bool renaming and_eq_true→zCa
open Prod.mk renaming injEq→zCe
open Option.some renaming injEq→zCg
section
namespace Go.Aut
inductive Rx where
 |set (bs:List Bool)
 |seq (l:List Rx)
 |alt (l:List Rx)
 |rep (p:Rx) (op:Nat)
abbrev Lg:=List Nat->Prop
inductive Star (L:Lg):Lg
 |nil:Star L []
 |snoc {u v:List Nat}:Star L u->L v->Star L (u++v)
def cat(A B:Lg):Lg:=fun w=>∃u v,w=u++v/\A u/\B v
def IZ(L:Lg):Lg:=cat (Star L) L
mutual
def den:Rx->Lg
 | .set bs=>fun w=>∃c,w=[c]/\bs[c]?=some true
 | .seq l=>lh l
 | .alt l=>wO l
 | .rep p op=>fun w=>if op=63 then w=[]\/den p w else if op=42 then Star (den p) w else IZ (den p) w
def lh:List Rx->Lg
 |[]=>fun w=>w=[]
 |p::l=>cat (den p) (lh l)
def wO:List Rx->Lg
 |[]=>fun _=>False
 |p::l=>fun w=>den p w\/wO l w
end
structure Job where
 p:Rx
 fr:Nat
 to:Nat
def tk(e:NEdge)(c:Nat):Bool:=decide (e.low<=c+32/\c+32<=e.high)
inductive Rg (E:List NEdge) (W:List Job):Nat->Lg
 |start:Rg E W 0 []
 |free {q:Nat} {u:List Nat} {e:NEdge}:Rg E W q u->e∈E->e.free=true->e.fr=q->Rg E W e.to u
 |take {q:Nat} {u:List Nat} {e:NEdge} {c:Nat}:Rg E W q u->e∈E->tk e c=true->c<95->e.fr=q->Rg E W e.to (u++[c])
 |job {q:Nat} {u v:List Nat} {j:Job}:Rg E W q u->j∈W->j.fr=q->den j.p v->Rg E W j.to (u++v)
structure Wf (n:Nat) (E:List NEdge) (W:List Job):Prop where
 two:2<=n
 edges:∀e∈E,e.fr<n/\e.to<n
 jobs:∀j∈W,j.fr<n/\j.to<n
def mix(n:Nat)(A F:Nat->Lg)(q:Nat):Lg:=if q<n then A q else F q
theorem bf{n:Nat}{A F:Nat->Lg}{q:Nat}(h:q<n):mix n A F q=A q:=if_pos h
theorem d6{n:Nat}{A F:Nat->Lg}{q:Nat}(h:n<=q):mix n A F q=F q:=if_neg (by omega)
theorem EN{n n':Nat}{E es:List NEdge}{W0 js:List Job}{j:Job}(hw:Wf n E (W0++[j]))(F:Nat->Lg)
 (hf:∀u v,Rg (E++es) (W0++js) j.fr u->den j.p v->Rg (E++es) (W0++js) j.to (u++v))
 (hF:∀q,n<=q->q<n'->∀u,(∀v,Rg E (W0++[j]) j.fr v->Rg (E++es) (W0++js) j.fr v)->F q u->Rg (E++es) (W0++js) q u)
 (hes:∀e∈es,e.free=true->∀u,mix n (Rg E (W0++[j])) F e.fr u->mix n (Rg E (W0++[j])) F e.to u)
 (htk:∀e∈es,∀c,c<95->tk e c=true->∀u,mix n (Rg E (W0++[j])) F e.fr u->mix n (Rg E (W0++[j])) F e.to (u++[c]))
 (hjs:∀k∈js,∀u v,mix n (Rg E (W0++[j])) F k.fr u->den k.p v->mix n (Rg E (W0++[j])) F k.to (u++v)):
 (∀q<n,∀u,Rg E (W0++[j]) q u↔Rg (E++es) (W0++js) q u)/\∀q,n<=q->q<n'->∀u,F q u↔Rg (E++es) (W0++js) q u:=by
 have fwd:∀q u,Rg E (W0++[j]) q u->Rg (E++es) (W0++js) q u:=by
  intro q u h
  induction h with
  |start=>exact .start
  |free _ he hf he2 ih=>exact .free ih (zAd _ he) hf he2
  |take _ he ht hc he2 ih=>exact .take ih (zAd _ he) ht hc he2
  |job _ hj hjf hd ih=>
    rcases zAe.1 hj with h|h
    ·exact .job ih (zAd _ h) hjf hd
    ·simp only[List.mem_singleton]at h
     subst h;subst hjf;exact hf _ _ ih hd
 have back:∀q u,Rg (E++es) (W0++js) q u->mix n (Rg E (W0++[j])) F q u:=by
  intro q u h
  induction h with
  |start=>rw[bf (by have:=hw.two;omega)];exact .start
  | @free q u e _ he hfr he2 ih=>
    subst he2;rcases zAe.1 he with h|h
    ·obtain⟨h1,h2⟩:=hw.edges e h
     rw[bf h1]at ih;rw[bf h2];exact .free ih h hfr rfl
    ·exact hes e h hfr u ih
  | @take q u e c _ he ht hc he2 ih=>
    subst he2;rcases zAe.1 he with h|h
    ·obtain⟨h1,h2⟩:=hw.edges e h
     rw[bf h1]at ih;rw[bf h2];exact .take ih h ht hc rfl
    ·exact htk e h c hc ht u ih
  | @job q u v k _ hk hkf hd ih=>
    subst hkf;rcases zAe.1 hk with h|h
    ·obtain⟨h1,h2⟩:=hw.jobs k (zAd _ h)
     rw[bf h1]at ih;rw[bf h2];exact .job ih (zAd _ h) rfl hd
    ·exact hjs k h u v ih hd
 refine⟨fun q hq u=>⟨fwd q u,fun h=>?_⟩,fun q hq hq' u=>⟨hF q hq hq' u (fun v=>fwd _ v),fun h=>?_⟩⟩
 ·have:=back q u h;rwa[bf hq]at this
 ·have:=back q u h;rwa[d6 (by omega)]at this
def sat(cls:List Nat->List Nat->Prop)(P:Lg):Prop:=∀u v,(∀c∈u,c<95)->(∀c∈v,c<95)->cls u v->P u->P v
mutual
def jH(cls:List Nat->List Nat->Prop):Lg->Rx->Prop
 |_,.set _=>True
 |X,.seq l=>C9 cls X l
 |X,.alt l=>Da cls X l
 |X,.rep p op=>if op=63 then jH cls X p else if op=42 then sat cls (cat X (Star (den p)))/\jH cls (cat X (Star (den p))) p
   else sat cls (cat X (Star (den p)))/\sat cls (cat X (IZ (den p)))/\jH cls (cat X (Star (den p))) p
def C9(cls:List Nat->List Nat->Prop):Lg->List Rx->Prop
 |_,[]=>True
 |X,p::l=>jH cls X p/\(l=[]\/(sat cls (cat X (den p))/\C9 cls (cat X (den p)) l))
def Da(cls:List Nat->List Nat->Prop):Lg->List Rx->Prop
 |_,[]=>True
 |X,p::l=>jH cls X p/\Da cls X l
end
structure Sys where
 n:Nat
 E:List NEdge
 W:List Job
def Sys.P(S:Sys)(q:Nat):Lg:=Rg S.E S.W q
structure Sys.ok (cls:List Nat->List Nat->Prop) (S:Sys):Prop where
 wf:Wf S.n S.E S.W
 st:∀q<S.n,sat cls (S.P q)
 jb:∀j∈S.W,jH cls (S.P j.fr) j.p
structure Sim (S T:Sys):Prop where
 le:S.n<=T.n
 eq:∀q<S.n,S.P q=T.P q
theorem Sim.trans{S T U:Sys}(h:Sim S T)(k:Sim T U):Sim S U:=
 ⟨Nat.le_trans h.le k.le,fun q hq=>(h.eq q hq).trans (k.eq q (Nat.lt_of_lt_of_le hq h.le))⟩
def fre(a b:Nat):NEdge:=⟨a,b,1,0⟩
theorem gv(a b:Nat):(fre a b).free=true:=by simp[fre,NEdge.free]
theorem Cf(a b c:Nat):tk (fre a b) c=false:=by simp[fre,tk]
theorem Star.one{L:Lg}{v:List Nat}(h:L v):Star L v:=by simpa using Star.snoc (L:=L) .nil h
theorem H6{A L:Lg}{u:List Nat}(h:A u):cat A (Star L) u:=⟨u,[],by simp,h,.nil⟩
theorem Np{A L:Lg}{u v:List Nat}(h:cat A (Star L) u)(hv:L v):cat A (Star L) (u++v):=by
 obtain⟨a,b,rfl,h1,h2⟩:=h;exact⟨a,b++v,by simp,h1,.snoc h2 hv⟩
variable{cls:List Nat->List Nat->Prop}{n:Nat}{E:List NEdge}{W0:List Job}{fr to:Nat}
theorem jv{n':Nat}{es:List NEdge}{js:List Job}{j:Job}(h:(Sys.mk n E (W0++[j])).ok cls)(hn:n<=n')(F:Nat->Lg)(hwf:Wf n' (E++es) (W0++js))
 (he:(∀q<n,∀u,Rg E (W0++[j]) q u↔Rg (E++es) (W0++js) q u)/\∀q,n<=q->q<n'->∀u,F q u↔Rg (E++es) (W0++js) q u)
 (hs:∀q,n<=q->q<n'->sat cls (F q)) (hj:∀k∈js,jH cls (mix n (Rg E (W0++[j])) F k.fr) k.p):
 (Sys.mk n' (E++es) (W0++js)).ok cls/\Sim ⟨n,E,W0++[j]⟩ ⟨n',E++es,W0++js⟩:=by
 have e1:∀q<n,Rg E (W0++[j]) q=Rg (E++es) (W0++js) q:=fun q hq=>funext fun u=>propext (he.1 q hq u);have e2:∀q,n<=q->q<n'->F q=Rg (E++es) (W0++js) q:=fun q h1 h2=>funext fun u=>propext (he.2 q h1 h2 u);refine⟨⟨hwf,fun q hq=>?_,fun k hk=>?_⟩,hn,fun q hq=>e1 q hq⟩
 ·by_cases hqn:q<n
  ·have:=h.st q hqn
   simp only[Sys.P]at this⊢;rwa[<-e1 q hqn]
  ·have:=hs q (by omega) hq
   simp only[Sys.P];rwa[<-e2 q (by omega) hq]
 ·simp only[Sys.P]
  rcases zAe.1 hk with h1|h1
  ·have h2:=h.jb k (zAd _ h1)
   have h3:=(h.wf.jobs k (zAd _ h1)).1;simp only[Sys.P]at h2;rwa[<-e1 _ h3]
  ·have h2:=hj k h1
   have h3:=(hwf.jobs k (zAi _ h1)).1;by_cases hkn:k.fr<n
   ·rw[bf hkn,e1 _ hkn]at h2;exact h2
   ·rw[d6 (by omega),e2 _ (by omega) h3]at h2;exact h2
theorem sO{n':Nat}{es:List NEdge}{js:List Job}{j:Job}(h:Wf n E (W0++[j]))(hn:n<=n')(he:∀e∈es,e.fr<n'/\e.to<n')(hj:∀k∈js,k.fr<n'/\k.to<n'):Wf n' (E++es) (W0++js):=by
 refine⟨by have:=h.two;omega,fun e hm=>?_,fun k hm=>?_⟩
 ·rcases zAe.1 hm with h1|h1
  ·have:=h.edges e h1;omega
  ·exact he e h1
 ·rcases zAe.1 hm with h1|h1
  ·have:=h.jobs k (zAd _ h1);omega
  ·exact hj k h1
theorem aL{j:Job}:j∈W0++[j]:=by simp
theorem Lj{bs:List Bool}{es:List NEdge}(h:(Sys.mk n E (W0++[⟨.set bs,fr,to⟩])).ok cls)(h1:∀e∈es,e.fr=fr/\e.to=to/\e.free=false)
 (h2:∀c<95,(bs[c]?=some true↔∃e∈es,tk e c=true)) (hb:bs.length=95):(Sys.mk n (E++es) (W0++[])).ok cls/\Sim ⟨n,E,W0++[⟨.set bs,fr,to⟩]⟩ ⟨n,E++es,W0++[]⟩:=by
 have hw:Wf n E (W0++[_]):=h.wf;obtain⟨k1,k2⟩:=hw.jobs _ aL;simp only at k1 k2;refine jv h (zAc _) (fun _ _=>False) (sO hw (zAc _) (fun e he=>by obtain⟨g1,g2,_⟩:=h1 e he;omega) (fun k hk=>by cases hk)) (EN hw _ ?_ ?_ ?_ ?_ ?_) (fun q h1 h2=>by omega) (fun k hk=>by cases hk)
 ·intro u v hu hd
  simp only[den]at hd;obtain⟨c,rfl,hc⟩:=hd;have hc95:c<95:=by have:=(zAh.1 hc).1;omega
  obtain⟨e,he,ht⟩:=(h2 c hc95).1 hc;obtain⟨g1,g2,_⟩:=h1 e he;have:=Rg.take hu (zAi _ he) ht hc95 g1;rwa[g2]at this
 ·intro q h1 h2;omega
 ·intro e he hf;obtain⟨_,_,g⟩:=h1 e he;rw[g]at hf;cases hf
 ·intro e he c hc ht u hu
  obtain⟨g1,g2,_⟩:=h1 e he;rw[g1,bf k1]at hu;rw[g2,bf k2];refine Rg.job (j:=⟨.set bs,fr,to⟩) hu aL rfl ?_;simp only[den];exact⟨c,rfl,(h2 c hc).2 ⟨e,he,ht⟩⟩
 ·intro k hk;cases hk
theorem Lm(h:(Sys.mk n E (W0++[⟨.seq [],fr,to⟩])).ok cls):(Sys.mk n (E++[fre fr to]) (W0++[])).ok cls/\Sim ⟨n,E,W0++[⟨.seq [],fr,to⟩]⟩ ⟨n,E++[fre fr to],W0++[]⟩:=by
 have hw:Wf n E (W0++[_]):=h.wf;obtain⟨k1,k2⟩:=hw.jobs _ aL;simp only at k1 k2;refine jv h (zAc _) (fun _ _=>False) (sO hw (zAc _) (fun e he=>by simp at he;subst he;exact⟨k1,k2⟩) (fun k hk=>by cases hk)) (EN hw _ ?_ ?_ ?_ ?_ ?_) (fun q h1 h2=>by omega) (fun k hk=>by cases hk)
 ·intro u v hu hd
  simp only[den,lh]at hd;subst hd;rw[zAb u];have hu2:Rg (E++[fre fr to]) (W0++[]) fr u:=hu;exact Rg.free (e:=fre fr to) hu2 (by simp) (gv _ _) rfl
 ·intro q h1 h2;omega
 ·intro e he hf u hu
  simp at he;subst he;simp only[fre]at hu⊢;rw[bf k1]at hu;rw[bf k2];have:=Rg.job (j:=⟨.seq [],fr,to⟩) (v:=[]) hu aL rfl (by simp only[den,lh])
  rwa[zAb]at this
 ·intro e he c hc ht;simp at he;subst he;rw[Cf]at ht;cases ht
 ·intro k hk;cases hk
theorem EP{p:Rx}{w:List Nat}:lh [p] w↔den p w:=by
 simp only[lh,cat];constructor
 ·rintro⟨u,v,rfl,h1,rfl⟩;simpa using h1
 ·intro h;exact⟨w,[],by simp,h,rfl⟩
theorem Ll{p:Rx}(h:(Sys.mk n E (W0++[⟨.seq [p],fr,to⟩])).ok cls):(Sys.mk n (E++[]) (W0++[⟨p,fr,to⟩])).ok cls/\Sim ⟨n,E,W0++[⟨.seq [p],fr,to⟩]⟩ ⟨n,E++[],W0++[⟨p,fr,to⟩]⟩:=by
 have hw:Wf n E (W0++[_]):=h.wf;obtain⟨k1,k2⟩:=hw.jobs _ aL;have hj:=h.jb _ aL;simp only at k1 k2;refine jv h (zAc _) (fun _ _=>False) (sO hw (zAc _) (fun e he=>by cases he) (fun k hk=>by simp at hk;subst hk;exact⟨k1,k2⟩)) (EN hw _ ?_ ?_ ?_ ?_ ?_) (fun q h1 h2=>by omega) ?_
 ·intro u v hu hd
  simp only[den]at hd;exact Rg.job (j:=⟨p,fr,to⟩) hu aL rfl (EP.1 hd)
 ·intro q h1 h2;omega
 ·intro e he;cases he
 ·intro e he;cases he
 ·intro k hk u v hu hd
  simp at hk;subst hk;simp only at hu⊢;rw[bf k1]at hu;rw[bf k2];refine Rg.job (j:=⟨.seq [p],fr,to⟩) hu aL rfl ?_;simp only[den];exact EP.2 hd
 ·intro k hk
  simp at hk;subst hk;simp only[bf k1];simp only[jH,C9]at hj;exact hj.1
theorem Li{p q0:Rx}{l:List Rx}(h:(Sys.mk n E (W0++[⟨.seq (p::q0::l),fr,to⟩])).ok cls):
 (Sys.mk (n+1) (E++[]) (W0++[⟨p,fr,n⟩,⟨.seq (q0::l),n,to⟩])).ok cls/\Sim ⟨n,E,W0++[⟨.seq (p::q0::l),fr,to⟩]⟩ ⟨n+1,E++[],W0++[⟨p,fr,n⟩,⟨.seq (q0::l),n,to⟩]⟩:=by
 have hw:Wf n E (W0++[_]):=h.wf;obtain⟨k1,k2⟩:=hw.jobs _ aL;have hj:=h.jb _ aL;simp only at k1 k2;simp only[jH,C9,List.cons_ne_nil,reduceCtorEq,false_or]at hj;simp only[Sys.P]at hj;have hd:∀w,den (.seq (p::q0::l)) w↔cat (den p) (den (.seq (q0::l))) w:=fun w=>by simp only[den,lh]
 refine jv h (zBd _) (fun _=>cat (Rg E (W0++[⟨.seq (p::q0::l),fr,to⟩]) fr) (den p)) (sO hw (zBd _) (fun e he=>by cases he) (fun k hk=>by
  simp at hk;rcases hk with rfl|rfl<;>simp only<;>omega)) (EN hw _ ?_ ?_ ?_ ?_ ?_) (fun q h1 h2=>hj.2.1) ?_
 ·intro u v hu hdv
  obtain⟨a,b,rfl,h1,h2⟩:=(hd v).1 hdv;rw[<-zAf];refine Rg.job (j:=⟨.seq (q0::l),n,to⟩) (q:=n) ?_ (by simp) rfl h2
  exact Rg.job (j:=⟨p,fr,n⟩) hu (by simp) rfl h1
 ·intro q h1 h2 u hg hu
  have:q=n:=by omega
  subst this;obtain⟨a,b,rfl,g1,g2⟩:=hu;exact Rg.job (j:=⟨p,fr,q⟩) (hg a g1) (by simp) rfl g2
 ·intro e he;cases he
 ·intro e he;cases he
 ·intro k hk u v hu hdv
  simp at hk;rcases hk with rfl|rfl
  ·simp only at hu⊢
   rw[bf k1]at hu;rw[d6 (by omega)]
   exact⟨u,v,rfl,hu,hdv⟩
  ·simp only at hu⊢
   rw[d6 (by omega)]at hu
   rw[bf k2];obtain⟨a,b,rfl,g1,g2⟩:=hu;rw[zAf];exact Rg.job (j:=⟨.seq (p::q0::l),fr,to⟩) g1 aL rfl ((hd _).2 ⟨b,v,rfl,g2,hdv⟩)
 ·intro k hk
  simp at hk;rcases hk with rfl|rfl
  ·simp only[bf k1];exact hj.1
  ·simp only
   rw[d6 (by omega)]
   simp only[jH,C9];have:=hj.2.2;exact this
theorem vD{l:List Rx}{w:List Nat}:wO l w↔∃p∈l,den p w:=by
 induction l with
 |nil=>simp[wO]
 |cons p l ih=>simp[wO,ih]
theorem Lx{X:Lg}{l:List Rx}:Da cls X l↔∀p∈l,jH cls X p:=by
 induction l with
 |nil=>simp[Da]
 |cons p l ih=>simp[Da,ih]
theorem Ln{l:List Rx}(h:(Sys.mk n E (W0++[⟨.alt l,fr,to⟩])).ok cls):(Sys.mk n (E++[]) (W0++l.map fun p=>⟨p,fr,to⟩)).ok cls/\Sim ⟨n,E,W0++[⟨.alt l,fr,to⟩]⟩ ⟨n,E++[],W0++l.map fun p=>⟨p,fr,to⟩⟩:=by
 have hw:Wf n E (W0++[_]):=h.wf;obtain⟨k1,k2⟩:=hw.jobs _ aL;have hj:=h.jb _ aL;simp only at k1 k2;simp only[jH,Sys.P]at hj;refine jv h (zAc _) (fun _ _=>False) (sO hw (zAc _) (fun e he=>by cases he) (fun k hk=>by simp at hk;obtain⟨p,_,rfl⟩:=hk;exact⟨k1,k2⟩)) (EN hw _ ?_ ?_ ?_ ?_ ?_) (fun q h1 h2=>by omega) ?_
 ·intro u v hu hd
  simp only[den]at hd;obtain⟨p,hp,hd⟩:=vD.1 hd;exact Rg.job (j:=⟨p,fr,to⟩) hu (zAi _ (List.mem_map.2 ⟨p,hp,rfl⟩)) rfl hd
 ·intro q h1 h2;omega
 ·intro e he;cases he
 ·intro e he;cases he
 ·intro k hk u v hu hd
  simp at hk;obtain⟨p,hp,rfl⟩:=hk;simp only at hu⊢;rw[bf k1]at hu;rw[bf k2];refine Rg.job (j:=⟨.alt l,fr,to⟩) hu aL rfl ?_;simp only[den];exact vD.2 ⟨p,hp,hd⟩
 ·intro k hk
  simp at hk;obtain⟨p,hp,rfl⟩:=hk;simp only[bf k1];exact Lx.1 hj p hp
theorem Lk{p:Rx}(h:(Sys.mk n E (W0++[⟨.rep p 63,fr,to⟩])).ok cls):(Sys.mk n (E++[fre fr to]) (W0++[⟨p,fr,to⟩])).ok cls/\Sim ⟨n,E,W0++[⟨.rep p 63,fr,to⟩]⟩ ⟨n,E++[fre fr to],W0++[⟨p,fr,to⟩]⟩:=by
 have hw:Wf n E (W0++[_]):=h.wf;obtain⟨k1,k2⟩:=hw.jobs _ aL;have hj:=h.jb _ aL;simp only at k1 k2;simp only[jH,Sys.P,if_true]at hj;have hd:∀w,den (.rep p 63) w↔(w=[]\/den p w):=fun w=>by simp only[den,if_true]
 refine jv h (zAc _) (fun _ _=>False) (sO hw (zAc _) (fun e he=>by simp at he;subst he;exact⟨k1,k2⟩) (fun k hk=>by simp at hk;subst hk;exact⟨k1,k2⟩)) (EN hw _ ?_ ?_ ?_ ?_ ?_) (fun q h1 h2=>by omega) ?_
 ·intro u v hu hdv
  rcases(hd v).1 hdv with rfl|h1
  ·rw[zAb]
   exact Rg.free hu (e:=fre fr to) (by simp) (gv _ _) rfl
  ·exact Rg.job (j:=⟨p,fr,to⟩) hu aL rfl h1
 ·intro q h1 h2;omega
 ·intro e he hf u hu
  simp at he;subst he;simp only[fre]at hu⊢;rw[bf k1]at hu;rw[bf k2];have:=Rg.job (j:=⟨.rep p 63,fr,to⟩) (v:=[]) hu aL rfl ((hd _).2 (.inl rfl));rwa[zAb]at this
 ·intro e he c hc ht;simp at he;subst he;rw[Cf]at ht;cases ht
 ·intro k hk u v hu hdv
  simp at hk;subst hk;simp only at hu⊢;rw[bf k1]at hu;rw[bf k2];exact Rg.job (j:=⟨.rep p 63,fr,to⟩) hu aL rfl ((hd _).2 (.inr hdv))
 ·intro k hk
  simp at hk;subst hk;simp only[bf k1];exact hj
theorem IC{p:Rx}(h:(Sys.mk n E (W0++[⟨.rep p 42,fr,to⟩])).ok cls):
 (Sys.mk (n+1) (E++[fre fr n,fre n to]) (W0++[⟨p,n,n⟩])).ok cls/\Sim ⟨n,E,W0++[⟨.rep p 42,fr,to⟩]⟩ ⟨n+1,E++[fre fr n,fre n to],W0++[⟨p,n,n⟩]⟩:=by
 have hw:Wf n E (W0++[_]):=h.wf;obtain⟨k1,k2⟩:=hw.jobs _ aL;have hj:=h.jb _ aL;simp only at k1 k2;simp only[jH,Sys.P,if_true,if_neg (show ¬(42:Nat)=63 by omega)]at hj
 have hd:∀w,den (.rep p 42) w↔Star (den p) w:=fun w=>by simp only[den,if_true,if_neg (show ¬(42:Nat)=63 by omega)]
 obtain⟨A,hA⟩:∃A,A=Rg E (W0++[⟨.rep p 42,fr,to⟩]) fr:=⟨_,rfl⟩;rw[<-hA]at hj
 have star:∀{T:Nat->Lg},(∀u v,T n u->den p v->T n (u++v))->∀a b,T n a->Star (den p) b->T n (a++b):=by
  intro T hT a b ha hb
  induction hb with
  |nil=>rwa[zAb]
  |snoc _ h2 ih=>rw[<-zAf];exact hT _ _ ih h2
 refine jv h (zBd _) (fun _=>cat A (Star (den p))) (sO hw (zBd _) (fun e he=>by simp at he;rcases he with rfl|rfl<;>simp only[fre]<;>omega) (fun k hk=>by simp at hk;subst hk;simp only;omega)) (EN hw _ ?_ ?_ ?_ ?_ ?_) (fun q h1 h2=>hj.1) ?_
 ·intro u v hu hdv
  refine Rg.free (q:=n) (e:=fre n to) ?_ (by simp) (gv _ _) rfl
  refine star (T:=Rg (E++[fre fr n,fre n to]) (W0++[⟨p,n,n⟩])) (fun u v h1 h2=>Rg.job (j:=⟨p,n,n⟩) h1 aL rfl h2) _ _ ?_ ((hd v).1 hdv);exact Rg.free (e:=fre fr n) hu (by simp) (gv _ _) rfl
 ·intro q h1 h2 u hg hu
  have:q=n:=by omega
  subst this;obtain⟨a,b,rfl,g1,g2⟩:=hu;rw[hA]at g1;refine star (T:=Rg (E++[fre fr q,fre q to]) (W0++[⟨p,q,q⟩])) (fun u v h1 h2=>Rg.job (j:=⟨p,q,q⟩) h1 aL rfl h2) _ _ ?_ g2;exact Rg.free (e:=fre fr q) (hg a g1) (by simp) (gv _ _) rfl
 ·intro e he hf u hu
  simp at he;rcases he with rfl|rfl
  ·simp only[fre]at hu⊢
   rw[bf k1]at hu;rw[d6 (by omega)]
   exact H6 (by rw[hA];exact hu)
  ·simp only[fre]at hu⊢
   rw[d6 (by omega)]at hu
   rw[bf k2];obtain⟨a,b,rfl,g1,g2⟩:=hu;rw[hA]at g1;exact Rg.job (j:=⟨.rep p 42,fr,to⟩) g1 aL rfl ((hd _).2 g2)
 ·intro e he c hc ht;simp at he;rcases he with rfl|rfl<;>(rw[Cf]at ht;cases ht)
 ·intro k hk u v hu hdv
  simp at hk;subst hk;simp only at hu⊢;rw[d6 (by omega)]at hu⊢
  exact Np hu hdv
 ·intro k hk
  simp at hk;subst hk;simp only;rw[d6 (by omega)]
  exact hj.2
theorem IB{p:Rx}{op:Nat}(ho:op≠63)(ho2:op≠42)(h:(Sys.mk n E (W0++[⟨.rep p op,fr,to⟩])).ok cls):
 (Sys.mk (n+2) (E++[fre fr n,fre (n+1) n,fre (n+1) to]) (W0++[⟨p,n,n+1⟩])).ok cls/\Sim ⟨n,E,W0++[⟨.rep p op,fr,to⟩]⟩ ⟨n+2,E++[fre fr n,fre (n+1) n,fre (n+1) to],W0++[⟨p,n,n+1⟩]⟩:=by
 have hw:Wf n E (W0++[_]):=h.wf;obtain⟨k1,k2⟩:=hw.jobs _ aL;have hj:=h.jb _ aL;simp only at k1 k2;simp only[jH,Sys.P,if_neg ho,if_neg ho2]at hj;have hd:∀w,den (.rep p op) w↔IZ (den p) w:=fun w=>by simp only[den,if_neg ho,if_neg ho2]
 obtain⟨A,hA⟩:∃A,A=Rg E (W0++[⟨.rep p op,fr,to⟩]) fr:=⟨_,rfl⟩;rw[<-hA]at hj;obtain⟨B,hB⟩:∃B,B=Rg (E++[fre fr n,fre (n+1) n,fre (n+1) to]) (W0++[⟨p,n,n+1⟩]):=⟨_,rfl⟩;have b1:∀u,B fr u->B n u:=fun u hu=>by rw[hB]at hu⊢;exact Rg.free (e:=fre fr n) hu (by simp) (gv _ _) rfl
 have b2:∀u,B (n+1) u->B n u:=fun u hu=>by rw[hB]at hu⊢;exact Rg.free (e:=fre (n+1) n) hu (by simp) (gv _ _) rfl
 have b3:∀u,B (n+1) u->B to u:=fun u hu=>by rw[hB]at hu⊢;exact Rg.free (e:=fre (n+1) to) hu (by simp) (gv _ _) rfl
 have b4:∀u v,B n u->den p v->B (n+1) (u++v):=fun u v hu hv=>by rw[hB]at hu⊢;exact Rg.job (j:=⟨p,n,n+1⟩) hu aL rfl hv
 have star:∀a b,B n a->Star (den p) b->B n (a++b):=by
  intro a b ha hb
  induction hb with
  |nil=>rwa[zAb]
  |snoc _ h2 ih=>rw[<-zAf];exact b2 _ (b4 _ _ ih h2)
 have hnm:∀q,n<=q->q<n+2->q=n\/q=n+1:=fun q h1 h2=>by omega
 obtain⟨F,hFn,hFm⟩:∃F:Nat->Lg,F n=cat A (Star (den p))/\F (n+1)=cat A (IZ (den p)):=⟨fun q=>if q=n then cat A (Star (den p))else cat A (IZ (den p)),by simp,by simp⟩
 refine jv h (by omega) F (sO hw (by omega) (fun e he=>by simp at he;rcases he with rfl|rfl|rfl<;>simp only[fre]<;>omega) (fun k hk=>by simp at hk;subst hk;simp only;omega)) (EN hw _ ?_ ?_ ?_ ?_ ?_) ?_ ?_
 ·intro u v hu hdv
  rw[<-hB]at hu⊢;obtain⟨a,b,rfl,g1,g2⟩:=(hd v).1 hdv;rw[<-zAf];exact b3 _ (b4 _ _ (star _ _ (b1 _ hu) g1) g2)
 ·intro q h1 h2 u hg hu
  rw[<-hB]at hg⊢;rcases hnm q h1 h2 with rfl|rfl
  ·rw[hFn]at hu
   obtain⟨a,b,rfl,g1,g2⟩:=hu;rw[hA]at g1;exact star _ _ (b1 _ (hg a g1)) g2
  ·rw[hFm]at hu
   obtain⟨a,b,rfl,g1,c,d,rfl,g2,g3⟩:=hu;rw[hA]at g1;rw[<-zAf];exact b4 _ _ (star _ _ (b1 _ (hg a g1)) g2) g3
 ·intro e he hf u hu
  simp at he;rcases he with rfl|rfl|rfl
  ·simp only[fre]at hu⊢
   rw[bf k1]at hu;rw[d6 (by omega),hFn]
   exact H6 (by rw[hA];exact hu)
  ·simp only[fre]at hu⊢
   rw[d6 (by omega),hFm]at hu
   rw[d6 (by omega),hFn]
   obtain⟨a,b,rfl,g1,c,d,rfl,g2,g3⟩:=hu;exact⟨a,c++d,rfl,g1,.snoc g2 g3⟩
  ·simp only[fre]at hu⊢
   rw[d6 (by omega),hFm]at hu
   rw[bf k2];obtain⟨a,b,rfl,g1,g2⟩:=hu;rw[hA]at g1;exact Rg.job (j:=⟨.rep p op,fr,to⟩) g1 aL rfl ((hd _).2 g2)
 ·intro e he c hc ht;simp at he;rcases he with rfl|rfl|rfl<;>(rw[Cf]at ht;cases ht)
 ·intro k hk u v hu hdv
  simp at hk;subst hk;simp only at hu⊢;rw[d6 (by omega),hFn]at hu
  rw[d6 (by omega),hFm]
  obtain⟨a,b,rfl,g1,g2⟩:=hu;exact⟨a,b++v,by simp,g1,b,v,rfl,g2,hdv⟩
 ·intro q h1 h2
  rcases hnm q h1 h2 with rfl|rfl
  ·rw[hFn];exact hj.1
  ·rw[hFm];exact hj.2.1
 ·intro k hk
  simp at hk;subst hk;simp only;rw[d6 (by omega),hFn]
  exact hj.2.2
def lZ(bs:List Bool):Nat->Nat->Nat
 |0,i=>i
 |f+1,i=>if i+1<95/\bs[i+1]?=some true then lZ bs f (i+1)else i
def jm(bs:List Bool)(fr to:Nat):Nat->Nat->List NEdge
 |0,_=>[]
 |f+1,i=>if i<95 then(if bs[i]?=some true then⟨fr,to,32+i,32+lZ bs 95 i⟩::jm bs fr to f (lZ bs 95 i+1)else jm bs fr to f (i+1))else[]
def Pq(bs:List Bool)(fr to:Nat):List NEdge:=jm bs fr to 95 0
theorem r0(bs:List Bool):∀(f i:Nat),i<95->bs[i]?=some true->i<=lZ bs f i/\lZ bs f i<95/\∀k,i<=k->k<=lZ bs f i->bs[k]?=some true
 |0,i,hi,hb=>by
   simp only[lZ];exact⟨zAc _,hi,fun k h1 h2=>by rw[show k=i by omega];exact hb⟩
 |f+1,i,hi,hb=>by
   simp only[lZ];split
   ·rename_i h
    obtain⟨h1,h2,h3⟩:=r0 bs f (i+1) h.1 h.2;refine⟨by omega,h2,fun k g1 g2=>?_⟩
    rcases zBf g1 with rfl|g1
    ·exact hb
    ·exact h3 k g1 g2
   ·exact⟨zAc _,hi,fun k h1 h2=>by rw[show k=i by omega];exact hb⟩
theorem kN(bs:List Bool)(fr to:Nat):∀(f i:Nat),95<=f+i->(∀e∈jm bs fr to f i,e.fr=fr/\e.to=to/\e.free=false/\e.low<256/\e.high<256)/\∀c<95,((∃e∈jm bs fr to f i,tk e c=true)↔i<=c/\bs[c]?=some true)
 |0,i,hf=>by
   simp only[jm];exact⟨fun e he=>(by cases he),fun c hc=>⟨fun⟨e,he,_⟩=>(by cases he),fun h=>by omega⟩⟩
 |f+1,i,hf=>by
   simp only[jm];split
   ·rename_i hi
    split
    ·rename_i hb
     obtain⟨h1,h2,h3⟩:=r0 bs 95 i hi hb;obtain⟨g1,g2⟩:=kN bs fr to f (lZ bs 95 i+1) (by omega)
     refine⟨fun e he=>?_,fun c hc=>?_⟩
     ·rcases zAj.1 he with rfl|he
      ·refine⟨rfl,rfl,?_,?_,?_⟩
       ·simp only[NEdge.free,decide_eq_false_iff_not];omega
       ·simp only;omega
       ·simp only;omega
      ·exact g1 e he
     ·have e1:=g2 c hc
      constructor
      ·rintro⟨e,he,ht⟩
       rcases zAj.1 he with rfl|he
       ·simp only[tk,decide_eq_true_eq]at ht
        exact⟨by omega,h3 c (by omega) (by omega)⟩
       ·obtain⟨k1,k2⟩:=e1.1 ⟨e,he,ht⟩
        exact⟨by omega,k2⟩
      ·rintro⟨k1,k2⟩
       by_cases hr:c<=lZ bs 95 i
       ·exact⟨_,List.mem_cons_self,by simp only[tk,decide_eq_true_eq];omega⟩
       ·obtain⟨e,he,ht⟩:=e1.2 ⟨by omega,k2⟩
        exact⟨e,List.mem_cons_of_mem _ he,ht⟩
    ·rename_i hb
     obtain⟨g1,g2⟩:=kN bs fr to f (i+1) (by omega)
     refine⟨g1,fun c hc=>?_⟩;rw[g2 c hc];constructor
     ·rintro⟨k1,k2⟩;exact⟨by omega,k2⟩
     ·rintro⟨k1,k2⟩
      refine⟨?_,k2⟩;rcases zBf k1 with rfl|k1
      ·exact absurd k2 hb
      ·exact k1
   ·rename_i hi
    exact⟨fun e he=>(by cases he),fun c hc=>⟨fun⟨e,he,_⟩=>(by cases he),fun h=>by omega⟩⟩
theorem rX(bs:List Bool)(fr to:Nat):∀(f i:Nat),(jm bs fr to f i).length<=f
 |0,i=>by simp[jm]
 |f+1,i=>by
   simp only[jm];split
   ·split
    ·have:=rX bs fr to f (lZ bs 95 i+1);simp;omega
    ·have:=rX bs fr to f (i+1);omega
   ·simp
def iF(to:Nat):Rx->List Rx->Nat->Nat->List Job
 |p,[],fr,_=>[⟨p,fr,to⟩]
 |p,q::l,fr,n=>⟨p,fr,n⟩::iF to q l n (n+1)
def ba(j:Job)(n:Nat):Nat×List NEdge×List Job:=match j.p with
 | .set bs=>(n,Pq bs j.fr j.to,[])
 | .seq []=>(n,[fre j.fr j.to],[])
 | .seq (p::l)=>(n+l.length,[],iF j.to p l j.fr n)
 | .alt l=>(n,[],l.map fun p=>⟨p,j.fr,j.to⟩)
 | .rep p op=>if op=63 then(n,[fre j.fr j.to],[⟨p,j.fr,j.to⟩])else if op=42 then(n+1,[fre j.fr n,fre n j.to],[⟨p,n,n⟩])
   else(n+2,[fre j.fr n,fre (n+1) n,fre (n+1) j.to],[⟨p,n,n+1⟩])
def oC:Nat->Nat->List NEdge->List Job->Option (Nat×List NEdge)
 |0,_,_,_=>none
 |f+1,n,E,W=>match W.getLast? with
   |none=>some (n,E)
   |some j=>oC f (ba j n).1 (E++(ba j n).2.1) (W.dropLast++(ba j n).2.2)
mutual
def wfR:Rx->Bool
 | .set bs=>decide (bs.length=95)
 | .seq l=>AI l
 | .alt l=>AI l
 | .rep p _=>wfR p
def AI:List Rx->Bool
 |[]=>true
 |p::l=>wfR p&&AI l
end
mutual
def dA:Rx->Nat
 | .set _=>1
 | .seq l=>1+eQ l
 | .alt l=>1+eQ l
 | .rep p _=>1+dA p
def eQ:List Rx->Nat
 |[]=>0
 |p::l=>dA p+eQ l
end
mutual
def fresh:Rx->Nat
 | .set _=>0
 | .seq l=>(l.length-1)+iW l
 | .alt l=>iW l
 | .rep p op=>(if op=63 then 0 else if op=42 then 1 else 2)+fresh p
def iW:List Rx->Nat
 |[]=>0
 |p::l=>fresh p+iW l
end
theorem CQ:∀{l:List Rx},AI l=true↔∀p∈l,wfR p=true
 |[]=>by simp[AI]
 |p::l=>by simp[AI,CQ (l:=l)]
variable{cls:List Nat->List Nat->Prop}
theorem Ht{to:Nat}:∀(l:List Rx)(p:Rx)(fr n:Nat)(E:List NEdge)(W0:List Job),(Sys.mk n E (W0++[⟨.seq (p::l),fr,to⟩])).ok cls->
 (Sys.mk (n+l.length) E (W0++iF to p l fr n)).ok cls/\Sim ⟨n,E,W0++[⟨.seq (p::l),fr,to⟩]⟩ ⟨n+l.length,E,W0++iF to p l fr n⟩
 |[],p,fr,n,E,W0,h=>by
   have:=Ll h;simpa[iF]using this
 |q::l,p,fr,n,E,W0,h=>by
   obtain⟨h1,h2⟩:=Li h;rw[zAb]at h1 h2;have e:W0++[⟨p,fr,n⟩,⟨.seq (q::l),n,to⟩]=(W0++[⟨p,fr,n⟩])++[(⟨.seq (q::l),n,to⟩:Job)]:=by simp
   rw[e]at h1 h2;obtain⟨h3,h4⟩:=Ht l q n (n+1) E (W0++[⟨p,fr,n⟩]) h1;have e2:n+(q::l).length=n+1+l.length:=by simp;omega
   have e3:W0++iF to p (q::l) fr n=W0++[⟨p,fr,n⟩]++iF to q l n (n+1):=by simp[iF]
   rw[e2,e3];exact⟨h3,h2.trans h4⟩
theorem Ql{n:Nat}{E:List NEdge}{W0:List Job}{j:Job}(h:(Sys.mk n E (W0++[j])).ok cls)(hw:wfR j.p=true):
 (Sys.mk (ba j n).1 (E++(ba j n).2.1) (W0++(ba j n).2.2)).ok cls/\Sim ⟨n,E,W0++[j]⟩ ⟨(ba j n).1,E++(ba j n).2.1,W0++(ba j n).2.2⟩:=by
 obtain⟨p,fr,to⟩:=j;cases p with
 |set bs=>
   simp only[wfR,decide_eq_true_eq]at hw;obtain⟨g1,g2⟩:=kN bs fr to 95 0 (by omega)
   simp only[ba];refine Lj h (fun e he=>?_) (fun c hc=>?_) hw
   ·obtain⟨k1,k2,k3,_⟩:=g1 e he;exact⟨k1,k2,k3⟩
   ·have:=g2 c hc
    simp only[zBj,true_and]at this;exact this.symm
 |seq l=>
   cases l with
   |nil=>simp only[ba];exact Lm h
   |cons p l=>
     simp only[ba];rw[zAb];exact Ht l p fr n E W0 h
 |alt l=>simp only[ba];exact Ln h
 |rep p op=>
   simp only[ba];split
   ·rename_i ho;subst ho;exact Lk h
   ·split
    ·rename_i ho;subst ho;exact IC h
    ·rename_i h1 h2;exact IB h1 h2 h
theorem Hr{to:Nat}:∀(l:List Rx)(p:Rx)(fr n:Nat),wfR p=true->AI l=true->∀k∈iF to p l fr n,wfR k.p=true
 |[],p,fr,n,h1,_,k,hk=>by simp[iF]at hk;subst hk;exact h1
 |q::l,p,fr,n,h1,h2,k,hk=>by
   simp only[AI,zCa]at h2;simp only[iF,zAj]at hk;rcases hk with rfl|hk
   ·exact h1
   ·exact Hr l q n (n+1) h2.1 h2.2 k hk
theorem HW{j:Job}{n:Nat}(hw:wfR j.p=true):∀k∈(ba j n).2.2,wfR k.p=true:=by
 obtain⟨p,fr,to⟩:=j;cases p with
 |set bs=>simp[ba]
 |seq l=>
   cases l with
   |nil=>simp[ba]
   |cons p l=>
     simp only[wfR,AI,zCa]at hw;simp only[ba];exact Hr l p fr n hw.1 hw.2
 |alt l=>
   simp only[wfR]at hw;simp only[ba];intro k hk;simp at hk;obtain⟨p,hp,rfl⟩:=hk;exact CQ.1 hw p hp
 |rep p op=>
   simp only[wfR]at hw;simp only[ba];intro k hk;split at hk
   ·simp at hk;subst hk;exact hw
   ·split at hk<;>(simp at hk;subst hk;exact hw)
def bj:List Job->Nat
 |[]=>0
 |j::l=>dA j.p+bj l
def aV:List Job->Nat
 |[]=>0
 |j::l=>fresh j.p+aV l
theorem eL:∀(a b:List Job),bj (a++b)=bj a+bj b
 |[],b=>by simp[bj]
 |x::a,b=>by simp only[zCb,bj,eL a b];omega
theorem ee:∀(a b:List Job),aV (a++b)=aV a+aV b
 |[],b=>by simp[aV]
 |x::a,b=>by simp only[zCb,aV,ee a b];omega
theorem zn{to:Nat}:∀(l:List Rx)(p:Rx)(fr n:Nat),bj (iF to p l fr n)=dA p+eQ l/\aV (iF to p l fr n)=fresh p+iW l
 |[],p,fr,n=>by simp[iF,bj,aV,eQ,iW]
 |q::l,p,fr,n=>by
   obtain⟨h1,h2⟩:=zn (to:=to) l q n (n+1);exact⟨by simp only[iF,bj,h1,eQ],by simp only[iF,aV,h2,iW]⟩
theorem E5{fr to:Nat}:∀l:List Rx,bj (l.map fun p=>⟨p,fr,to⟩)=eQ l/\aV (l.map fun p=>⟨p,fr,to⟩)=iW l
 |[]=>by simp[bj,aV,eQ,iW]
 |p::l=>by
   obtain⟨h1,h2⟩:=E5 (fr:=fr) (to:=to) l;exact⟨by simp only[zCc,bj,h1,eQ],by simp only[zCc,aV,h2,iW]⟩
theorem Ao(j:Job)(n:Nat):bj (ba j n).2.2+1=dA j.p/\(ba j n).1+aV (ba j n).2.2=n+fresh j.p/\(ba j n).2.1.length<=95:=by
 obtain⟨p,fr,to⟩:=j;cases p with
 |set bs=>
   refine⟨by simp[ba,bj,dA],by simp[ba,aV,fresh],?_⟩
   simp only[ba];exact rX bs fr to 95 0
 |seq l=>
   cases l with
   |nil=>simp[ba,bj,aV,dA,fresh,eQ,iW]
   |cons p l=>
     obtain⟨h1,h2⟩:=zn (to:=to) l p fr n;simp only[ba,dA,fresh,eQ,iW,h1,h2];refine⟨by omega,by simp;omega,by simp⟩
 |alt l=>
   obtain⟨h1,h2⟩:=E5 (fr:=fr) (to:=to) l;simp only[ba,dA,fresh,h1,h2];exact⟨by omega,trivial,by simp⟩
 |rep p op=>
   simp only[ba,dA,fresh];split
   ·simp[bj,aV];omega
   ·split
    ·simp[bj,aV];omega
    ·simp[bj,aV];omega
theorem qY{W:List Job}{j:Job}(h:W.getLast?=some j):W=W.dropLast++[j]:=by
 rcases List.eq_nil_or_concat W with rfl|⟨l,x,rfl⟩
 ·simp at h
 ·simp at h;subst h;simp
theorem vn:∀(f n:Nat)(E:List NEdge)(W:List Job),(Sys.mk n E W).ok cls->(∀j∈W,wfR j.p=true)->bj W<f->
 ∃n' E',oC f n E W=some (n',E')/\(Sys.mk n' E' []).ok cls/\Sim ⟨n,E,W⟩ ⟨n',E',[]⟩/\n'=n+aV W/\E'.length<=E.length+95*bj W
 |0,_,_,_,_,_,hf=>by omega
 |f+1,n,E,W,h,hw,hf=>by
   simp only[oC];cases hl:W.getLast? with
   |none=>
     have:W=[]:=by simpa using hl
     subst this;exact⟨n,E,rfl,h,⟨zAc _,fun _ _=>rfl⟩,by simp[aV],by simp⟩
   |some j=>
     have e:=qY hl;obtain⟨W0,hW0⟩:∃W0,W0=W.dropLast:=⟨_,rfl⟩;rw[<-hW0]at e;simp only[<-hW0];subst e;obtain⟨h1,h2⟩:=Ql h (hw j (by simp))
     obtain⟨s1,s2,s3⟩:=Ao j n;have hz:bj (W0++[j])=bj W0+dA j.p:=by rw[eL];simp[bj]
     have hz2:bj (W0++(ba j n).2.2)=bj W0+bj (ba j n).2.2:=eL _ _;have hz3:aV (W0++[j])=aV W0+fresh j.p:=by rw[ee];simp[aV]
     have hz4:aV (W0++(ba j n).2.2)=aV W0+aV (ba j n).2.2:=ee _ _
     obtain⟨n',E',g1,g2,g3,g4,g5⟩:=vn f _ _ (W0++(ba j n).2.2) h1 (fun k hk=>by
      rcases zAe.1 hk with hk|hk
      ·exact hw k (by simp[hk])
      ·exact HW (hw j (by simp)) k hk) (by omega)
     refine⟨n',E',g1,g2,h2.trans g3,by omega,?_⟩
     rw[zBg]at g5;rw[hz2]at g5;rw[hz,<-s1];omega
theorem start_P{p:Rx}:∀{q:Nat}{u:List Nat},Rg [] [⟨p,0,1⟩] q u↔(q=0/\u=[])\/(q=1/\den p u):=by
 intro q u;constructor
 ·intro h
  induction h with
  |start=>exact .inl ⟨rfl,rfl⟩
  |free _ he=>cases he
  |take _ he=>cases he
  | @job q u v j _ hj hf hd ih=>
    simp at hj;subst hj;rcases ih with⟨h1,rfl⟩|⟨h1,_⟩
    ·exact .inr ⟨rfl,by simpa using hd⟩
    ·rw[h1]at hf;cases hf
 ·rintro(⟨rfl,rfl⟩|⟨rfl,h⟩)
  ·exact .start
  ·have:=Rg.job (E:=[]) (W:=[⟨p,0,1⟩]) (j:=⟨p,0,1⟩) .start (by simp) rfl h
   simpa using this
theorem GM(j:Job)(n:Nat):∀e∈(ba j n).2.1,e.low<256/\e.high<256:=by
 obtain⟨p,fr,to⟩:=j;have hf:∀a b,(fre a b).low<256/\(fre a b).high<256:=fun a b=>by simp[fre]
 cases p with
 |set bs=>
   simp only[ba];intro e he;obtain⟨_,_,_,h4,h5⟩:=(kN bs fr to 95 0 (by omega)).1 e he
   exact⟨h4,h5⟩
 |seq l=>
   cases l with
   |nil=>simp only[ba];intro e he;simp at he;subst he;exact hf _ _
   |cons p l=>simp[ba]
 |alt l=>simp[ba]
 |rep p op=>
   simp only[ba];intro e he;split at he
   ·simp at he;subst he;exact hf _ _
   ·split at he
    ·simp at he;rcases he with rfl|rfl<;>exact hf _ _
    ·simp at he;rcases he with rfl|rfl|rfl<;>exact hf _ _
theorem s7:∀(f n:Nat)(E:List NEdge)(W:List Job)(r:Nat×List NEdge),(∀e∈E,e.low<256/\e.high<256)->oC f n E W=some r->∀e∈r.2,e.low<256/\e.high<256
 |0,_,_,_,_,_,h=>by simp[oC]at h
 |f+1,n,E,W,r,hE,h=>by
   simp only[oC]at h;split at h
   ·cases h;exact hE
   ·refine s7 f _ _ _ r (fun e he=>?_) h
    rcases zAe.1 he with he|he
    ·exact hE e he
    ·exact GM _ _ e he
def Dy(p:Rx):Option Net:=(oC (dA p+1) 2 [] [⟨p,0,1⟩]).map fun x=>⟨x.1,0,1,x.2⟩
structure NetSpec (cls:List Nat->List Nat->Prop) (p:Rx) (N:Net):Prop where
 n:N.n=2+fresh p
 start:N.start=0
 stop:N.stop=1
 edges:∀e∈N.edges,e.fr<N.n/\e.to<N.n
 bytes:∀e∈N.edges,e.low<256/\e.high<256
 len:N.edges.length<=95*dA p
 lang:∀u,Rg N.edges [] 1 u↔den p u
 sat:∀q<N.n,sat cls (Rg N.edges [] q)
theorem FU{p:Rx}(hw:wfR p=true)(h0:sat cls fun u=>u=[])(h1:sat cls (den p))(h2:jH cls (fun u=>u=[]) p):∃N,Dy p=some N/\NetSpec cls p N:=by
 have e0:Rg [] [⟨p,0,1⟩] 0=fun u=>u=[]:=funext fun u=>propext (start_P.trans (by simp))
 have e1:Rg [] [⟨p,0,1⟩] 1=den p:=funext fun u=>propext (start_P.trans (by simp))
 have hok:(Sys.mk 2 [] [⟨p,0,1⟩]).ok cls:=by
  refine⟨⟨zAc _,fun e he=>(by cases he),fun j hj=>by simp at hj;subst hj;simp⟩,fun q hq=>?_,fun j hj=>?_⟩
  ·have:q=0\/q=1:=by simp only at hq;omega
   simp only[Sys.P];rcases this with rfl|rfl
   ·rw[e0];exact h0
   ·rw[e1];exact h1
  ·simp at hj
   subst hj;simp only[Sys.P];rw[e0];exact h2
 obtain⟨n',E',g1,g2,g3,g4,g5⟩:=vn (dA p+1) 2 [] [⟨p,0,1⟩] hok (fun j hj=>by simp at hj;subst hj;exact hw) (by simp[bj])
 refine⟨⟨n',0,1,E'⟩,by simp[Dy,g1],⟨by simpa[aV]using g4,rfl,rfl,g2.wf.edges,s7 _ _ _ _ _ (fun e he=>(by cases he)) g1,by simpa[bj]using g5,fun u=>?_,fun q hq=>g2.st q hq⟩⟩
 have:=g3.eq 1 (by simp)
 simp only[Sys.P]at this;rw[<-this,e1]
end Go.Aut
end
section
namespace Go.Abs
open Go.Proofs Go.Aut
attribute [-simp] getElem?_pos zBh zCf
attribute [-simp] cl nt
@[simp] theorem cl_int {k:IntKind} {n:Int}:cl (V.int k n)=[V.int k n]:=rfl
@[simp] theorem nt_int {k:IntKind} {n:Int}:nt (V.int k n)=true:=rfl
@[simp] theorem cl_bool {b:Bool}:cl (V.bool b)=[V.bool b]:=rfl
@[simp] theorem nt_bool {b:Bool}:nt (V.bool b)=true:=rfl
@[simp] theorem cl_str {s:List UInt8}:cl (V.str s)=[V.str s]:=rfl
@[simp] theorem nt_str {s:List UInt8}:nt (V.str s)=true:=rfl
@[simp] theorem cl_nil {z:Nat}:cl (V.nil z)=[V.nil z]:=rfl
@[simp] theorem nt_nil {z:Nat}:nt (V.nil z)=true:=rfl
@[simp] theorem cl_seq {z:Nat} {l:List V}:cl (V.seq z l)=[V.seq z l]:=rfl
@[simp] theorem nt_seq {z:Nat} {l:List V}:nt (V.seq z l)=true:=rfl
@[simp] theorem cl_ref {i n:Nat}:cl (V.ref i n)=[V.ref i n]:=rfl
@[simp] theorem nt_ref {i n:Nat}:nt (V.ref i n)=true:=rfl
@[simp] theorem cl_ptr {i o:Nat}:cl (V.ptr i o)=[V.ptr i o]:=rfl
@[simp] theorem nt_ptr {i o:Nat}:nt (V.ptr i o)=true:=rfl
@[simp] theorem cl_eptr {i n j o:Nat}:cl (V.eptr i n j o)=[V.eptr i n j o]:=rfl
@[simp] theorem nt_eptr {i n j o:Nat}:nt (V.eptr i n j o)=true:=rfl
@[simp] theorem cl_mref {i j n:Nat}:cl (V.mref i j n)=[V.mref i j n]:=rfl
@[simp] theorem nt_mref {i j n:Nat}:nt (V.mref i j n)=true:=rfl
@[simp] theorem cl_fseq {z:Nat} {l:List V}:cl (V.fseq z l)=[V.fseq z l]:=rfl
@[simp] theorem nt_fseq {z:Nat} {l:List V}:nt (V.fseq z l)=true:=rfl
@[simp] theorem cl_mptr {i n j k o:Nat}:cl (V.mptr i n j k o)=[V.mptr i n j k o]:=rfl
@[simp] theorem nt_mptr {i n j k o:Nat}:nt (V.mptr i n j k o)=true:=rfl
@[simp] theorem cl_sptr {x:V} {o:Nat}:cl (V.sptr x o)=[V.sptr x o]:=rfl
@[simp] theorem nt_sptr {x:V} {o:Nat}:nt (V.sptr x o)=true:=rfl
@[simp] theorem cl_nilptr :cl (V.nilptr)=[V.nilptr]:=rfl
@[simp] theorem nt_nilptr :nt (V.nilptr)=true:=rfl
@[simp] theorem cl_fn {f:Go.Fn} {a b:List V}:cl (V.fn f a b)=[V.fn f a b]:=rfl
@[simp] theorem nt_fn {f:Go.Fn} {a b:List V}:nt (V.fn f a b)=true:=rfl
@[simp] theorem cl_nilfn :cl (V.nilfn)=[V.nilfn]:=rfl
@[simp] theorem nt_nilfn :nt (V.nilfn)=true:=rfl
@[simp] theorem cl_iface {t:TypeId} {x:V}:cl (V.iface t x)=[V.iface t x]:=rfl
@[simp] theorem nt_iface {t:TypeId} {x:V}:nt (V.iface t x)=true:=rfl
@[simp] theorem Q1 :cl (V.niliface)=[V.niliface]:=rfl
@[simp] theorem QZ :nt (V.niliface)=true:=rfl
@[simp] theorem cl_tup {l:List V}:cl (V.tup l)=[V.tup l]:=rfl
@[simp] theorem nt_tup {l:List V}:nt (V.tup l)=false:=rfl
@[simp] theorem cl_junk :cl (V.junk)=[V.junk]:=rfl
@[simp] theorem nt_junk :nt (V.junk)=true:=rfl
@[simp] theorem cl_strct {l:List V}:cl (.strct l)=l:=rfl
@[simp] theorem nt_strct {l:List V}:nt (.strct l)=true:=rfl
theorem Fn.toH{P:Program}{f:FuncId}{us:List V}{r:V}(h:Fn P f us r)(hu:ah us=[])(hp:purs [] us=some us):FnH P f [] us [] r []:=by
 intro M w κ cs J hJC hp hus o a Nx Q hN
 have hus2:ac M NX us cs.toList:=by
  have H:Rel 0 M (cW κ [] w [] cs J) w κ M ⟨[],[]⟩ { tmps:=#[],defers:=[] } w:=
   { dfr:=rfl,jst:=hp.jst,pin:=fun i hi=>(by cases hi),size:=rfl,regs:=fun t v ht=>(by simp[lk]at ht),heap:=hp.heap,inj:=hp.inj,snd:=hp.snd,sep:=hp.sep
     sub:=⟨fun _ _ h=>h,hp.fmS,fun _ _ _=>zBj _,zBj _,hp.gl⟩,new:=fun _ _ h=>.inl h,base:=rfl,blw:=Und.refl _ _ }
  exact bg H (fun _ _ h=>h) (fun id hid=>by rw[hu]at hid;cases hid) hus ‹_›
 refine h M w cs ⟨hp.snd,hp.gl⟩ hus2 o a Nx Q ?_;intro c M' w' h1 h2 h3 h4 h5;refine hN c M' w' ⟨fun _=>undef,fun _ _=>undef,fun _ _=>False,fun _=>none⟩ (ay h1) (Und.of_below h2 (zAc _)) ?_ h4 (fun p v hv=>(h5 p v hv).imp_right Or.inl) (fun i hi=>by cases hi)
 exact{ heap:=fun id ob h=>by simp at h,inj:=fun i j oi oj g h=>by simp at h,snd:=h3,sep:=fun p v _ id ob h=>by simp at h,fmS:=fun _ _ h=>(by cases h),gl:=hp.gl.mono h4,jst:=hp.jst }
mutual
def rxV:Rx->V
 | .set bs=>.iface qi (.strct (bs.map .bool))
 | .seq l=>.iface qj (.strct [.seq 1 (IJ l)])
 | .alt l=>.iface ql (.strct [.seq 1 (IJ l)])
 | .rep p op=>.iface qk (.strct [(rxV p),.int .u8 op])
def IJ:List Rx->List V
 |[]=>[]
 |p::l=>(rxV p)::IJ l
end
theorem uZ:∀l:List Rx,IJ l=l.map rxV
 |[]=>by simp[IJ]
 |p::l=>by simp[IJ,uZ l]
def rxP(x:Rx):V:=.sptr (.strct [rxV x]) 0
theorem FB(x:Rx):∃t y,rxV x=V.iface t y:=by cases x<;>(simp only[rxV];exact⟨_,_,rfl⟩)
def GO:Rx:=.set (zAg 95 false)
def jd(c:Nat):List Bool:=(zAg 95 false).set c true
def IM:List Rx->Rx
 |[p]=>p
 |l=>.seq l
def iq:List Rx->Rx
 |[]=>GO
 |[p]=>p
 |l=>.alt l
@[simp high] theorem cl_rx (x:Rx):cl (rxV x)=[rxV x]:=by obtain⟨t,y,h⟩:=(FB x);rw[h];rfl
@[simp high] theorem cl_rxp (x:Rx):cl (rxP x)=[(rxP x)]:=rfl
@[simp] theorem nt_rx (x:Rx):nt (rxV x)=true:=by obtain⟨t,y,h⟩:=(FB x);rw[h];rfl
@[simp] theorem nt_rxp (x:Rx):nt (rxP x)=true:=rfl
mutual
theorem Fz:∀(x:Rx)(h:List (Option Ob)),pur h (rxV x)=some (rxV x)
 | .set bs,h=>by
   have:∀l:List Bool,purs h (l.map .bool)=some (l.map .bool):=fun l=>by induction l<;>simp[purs,pur, *]
   simp only[rxV,pur,this,Option.map_some]
 | .seq l,h=>by simp[rxV,pur,purs]
 | .alt l,h=>by simp[rxV,pur,purs]
 | .rep p op,h=>by simp[rxV,pur,purs,Fz p h]
end
mutual
theorem AU:∀(x:Rx),av (rxV x)=[]
 | .set bs=>by
   have:∀l:List Bool,ah (l.map .bool)=[]:=fun l=>by induction l<;>simp[ah,av, *]
   simp only[rxV,av,this]
 | .seq l=>by simp[rxV,av,ah]
 | .alt l=>by simp[rxV,av,ah]
 | .rep p op=>by simp[rxV,av,ah,AU p]
end
mutual
theorem Fy:∀(x:Rx)(m:List Nat),ren m (rxV x)=(rxV x)
 | .set bs,m=>by
   have:∀l:List Bool,dy m (l.map .bool)=l.map .bool:=fun l=>by induction l<;>simp[dy,ren, *]
   simp only[rxV,ren,this]
 | .seq l,m=>by simp[rxV,ren,dy]
 | .alt l,m=>by simp[rxV,ren,dy]
 | .rep p op,m=>by simp[rxV,ren,dy,Fy p m]
end
mutual
theorem FA:∀(x:Rx)(m:List Nat),bck m (rxV x)=(rxV x)
 | .set bs,m=>by
   have:∀l:List Bool,j1 m (l.map .bool)=l.map .bool:=fun l=>by induction l<;>simp[j1,bck, *]
   simp only[rxV,bck,this]
 | .seq l,m=>by simp[rxV,bck,j1]
 | .alt l,m=>by simp[rxV,bck,j1]
 | .rep p op,m=>by simp[rxV,bck,j1,FA p m]
end
attribute [simp] Fz AU Fy FA
theorem jn(x:Rx):∃t y,rxV x=.iface t y/\(∀h,pur h y=some y)/\av y=[]/\(∀m,ren m y=y)/\∀m,bck m y=y:=by
 obtain⟨t,y,h⟩:=FB x;have h1:=fun hh=>Fz x hh;have h2:=AU x;have h3:=fun m=>Fy x m;have h4:=fun m=>FA x m;rw[h]at h1 h2 h3 h4;refine⟨t,y,h,fun hh=>?_,h2,fun m=>?_,fun m=>?_⟩
 ·have:=h1 hh
  simp only[pur]at this;obtain⟨u,g1,g2⟩:=zBe.1 this;cases g2;exact g1
 ·have:=h3 m;simp only[ren]at this;exact(V.iface.inj this).2
 ·have:=h4 m;simp only[bck]at this;exact(V.iface.inj this).2
@[simp] theorem rxp_pur (x:Rx) (h:List (Option Ob)):pur h (rxP x)=some (rxP x):=rfl
@[simp] theorem rxp_vids (x:Rx):av (rxP x)=[]:=rfl
@[simp] theorem rxp_ren (x:Rx) (m:List Nat):ren m (rxP x)=(rxP x):=rfl
@[simp] theorem rxp_bck (x:Rx) (m:List Nat):bck m (rxP x)=(rxP x):=rfl
theorem yO(x:Rx):Fn Tryz.prog oD [(rxP x)] (rxV x):=by
 refine Fn.of_image mixed oK oI rfl fun ho=>?_;unfold jU;simp only[oks,ok,and_true]at ho;clear ho;obtain⟨t,y,h,h1,h2,h3,h4⟩:=jn x;simp(disch:=omega) [-zAa,rxP,h,h1,St.isNil]
def SW(s:Str):Rx:=IM (s.map fun c=>.set (jd (c.toNat-32)))
end Go.Abs
end
section
namespace Go.Abs
open Go.Proofs Go.Aut
attribute [-simp] getElem?_pos zBh zCf cl nt
@[simp] def sg (j:Job):V:=.strct [rxV j.p,nV j.fr,nV j.to]
def MK(n:Nat)(E:List NEdge)(W:List Job):List (Option Ob):=[some (.box [nV n,.ref 1 E.length,.ref 2 W.length]),some (.arr bM 4 (E.map NEdge.v)),some (.arr b5 3 (W.map sg))]
theorem dX(n:Nat)(E:List NEdge)(W:List Job)(x:Rx)(fr to:Nat)(hW:W.length<=1000000):FnH Tryz.prog d5 [0] [.ptr 0 0,rxV x,nV fr,nV to] (MK n E W) (.tup []) (MK n E (W++[⟨x,fr,to⟩])):=by
 refine FnH.of_image mixed d8 d7 rfl fun ho hh=>?_;unfold cu;clear ho hh;obtain⟨t,y,h,h1,h2,h3,h4⟩:=jn x;simp(disch:=omega) [-zAa,MK,h,h1,h2,h3]
theorem yY(n:Nat)(x:Rx)(fr to:Nat):FnH Tryz.prog d5 [0] [.ptr 0 0,rxV x,nV fr,nV to] [some (.box [nV n,.nil 4,.nil 3])] (.tup []) [some (.box [nV n,.nil 4,.ref 1 1]),some (.arr b5 3 [sg ⟨x,fr,to⟩])]:=by
 refine FnH.of_image mixed d8 d7 rfl fun ho hh=>?_;unfold cu;clear ho hh;obtain⟨t,y,h,h1,h2,h3,h4⟩:=jn x;simp(disch:=omega) [-zAa,h,h1,h2,h3]
theorem fP(n:Nat)(E:List NEdge)(W:List Job)(hn:n<=1000000):FnH Tryz.prog gb [0] [.ptr 0 0] (MK n E W) (nV n) (MK (n+1) E W):=by
 refine FnH.of_image mixed gr gn rfl fun ho hh=>?_;unfold dM;clear ho hh;simp(disch:=omega) [-zAa,MK]
theorem cP(n:Nat)(E:List NEdge)(W:List Job)(fr to:Nat)(hE:E.length<=1000000):FnH Tryz.prog gV [0] [.ptr 0 0,nV fr,nV to] (MK n E W) (.tup []) (MK n (E++[Aut.fre fr to]) W):=by
 refine FnH.of_image mixed gX gW rfl fun ho hh=>?_;unfold d9;clear ho hh;simp(disch:=omega) [-zAa,MK,Aut.fre,NEdge.v]
theorem JL(bs:List Bool)(hb:bs.length=95)(i:Nat)(hi:i<95):FnH Tryz.prog kf [0] [.ptr 0 0,nV i] [some (.box (bs.map .bool))] (nV (lZ bs 95 i)) [some (.box (bs.map .bool))]:=by
 refine FnH.of_image mixed ko ki rfl fun ho hh=>?_;unfold fH;clear ho hh;simp(disch:=omega) [-zAa];obtain⟨R,hR⟩:∃R,R=lZ bs 95 i:=⟨_,rfl⟩;rw[<-hR];refine an (fun(x:Nat×Nat)=>⟨[(0,.ptr 0 0),(1,nV x.2)],[some (.box (bs.map .bool))]⟩) (fun x=>x.2<95/\95<=x.1+x.2/\lZ bs x.1 x.2=R) (fun x=>x.1) [] _ (95,i) rfl (by simp) ⟨hi,by simp,by simp[hR]⟩ ?_
 rintro⟨f,k⟩ ⟨hk,hf,hr⟩ N hN;simp only at hk hf hr;obtain⟨f,rfl⟩:∃g,f=g+1:=⟨f-1,by omega⟩
 simp only[lZ]at hr;rcases zBb (k+1) 95 with h1|h1
 ·obtain⟨b,hb1⟩:=a8 (l:=bs) (k:=k+1) (by omega)
  have e1:((k:Int)+1).toNat=k+1:=by omega
  have e0:cut (bs.map V.bool) (k+1) 1=some [.bool b]:=by
   unfold cut;have hd:=zBa (l:=bs.map V.bool) (i:=k+1) (by simp;omega)
   rw[if_pos (by simp;omega),hd]
   have hg:=(zAh.1 hb1).2;simp[hg]
  cases b with
  |true=>
    rw[if_pos ⟨h1,hb1⟩]at hr;simp(disch:=omega) [-zAa,e1,e0,-cut];exact hN.out _<|Nx.mk (f,k+1) (by simp) ⟨by simp only;omega,by simp only;omega,hr⟩ (by simp only;omega)
  |false=>
    rw[if_neg (by rw[hb1];simp)]at hr
    subst hr;simp(disch:=omega) [-zAa,e1,e0,-cut]
 ·rw[if_neg (by omega)]at hr
  subst hr;simp(disch:=omega) [-zAa,h1]
theorem JM(bs:List Bool)(hb:bs.length=95)(n fr to:Nat)(E:List NEdge)(W:List Job)(hE:E.length<=1000000):
 FnH Tryz.prog lB [1] [.strct (bs.map .bool),.ptr 0 0,nV fr,nV to] (MK n E W) (.tup []) (MK n (E++Pq bs fr to) W):=by
 refine FnH.of_image mixed lK lG rfl fun ho hh=>?_;unfold gN;clear ho hh;obtain⟨R,hR⟩:∃R,R=E++Pq bs fr to:=⟨_,rfl⟩;rw[<-hR];simp(disch:=omega) [-zAa,MK]
 refine an (fun(x:Nat×Nat×List NEdge)=>⟨[(1,.ptr 0 0),(2,nV fr),(3,nV to),(4,.ptr 1 0),(8,nV x.2.1)],[some (.box [nV n,.ref 2 x.2.2.length,.ref 3 W.length]),some (.box (bs.map .bool)),some (.arr bM 4 (x.2.2.map NEdge.v)),some (.arr b5 3 (W.map sg))]⟩)
  (fun x=>x.2.1<=95/\95<=x.1+x.2.1/\x.2.2.length<=1000000+x.2.1/\x.2.2++jm bs fr to x.1 x.2.1=R) (fun x=>95-x.2.1) [] _ (95,0,E) rfl (by simp) ⟨by simp,by simp,by simp only;omega,by simp[hR,Pq]⟩ ?_
 rintro⟨f,k,E1⟩ ⟨hk,hf,hl,hr⟩ N hN;simp only at hk hf hl hr;rcases zBb k 95 with h1|h1
 ·obtain⟨f,rfl⟩:∃g,f=g+1:=⟨f-1,by omega⟩
  simp only[jm,if_pos h1]at hr;obtain⟨b,hb1⟩:=a8 (l:=bs) (k:=k) (by omega)
  have e0:cut (bs.map V.bool) k 1=some [.bool b]:=by
   unfold cut;have hd:=zBa (l:=bs.map V.bool) (i:=k) (by simp;omega)
   rw[if_pos (by simp;omega),hd]
   have hg:=(zAh.1 hb1).2;simp[hg]
  cases b with
  |true=>
    rw[if_pos hb1]at hr;obtain⟨g1,g2,_⟩:=r0 bs 95 k h1 hb1;have e1:((32:Int)+(lZ bs 95 k:Nat)).toNat=32+lZ bs 95 k:=by omega
    simp(disch:=omega) [-zAa,e0,-cut];refine aw [0] 1 [1] (by simp) (by simp) (by simp) (by simp) (JL bs hb k h1) (by simp) fun _ _=>?_
    generalize hq:lZ bs 95 k=q at *;simp(disch:=omega) [-zAa];exact hN.out _<|Nx.mk (f,q+1,E1++[⟨fr,to,32+k,32+q⟩]) (by simp[NEdge.v]) ⟨by simp only;omega,by simp only;omega,by simp;omega,by simpa using hr⟩ (by simp only;omega)
  |false=>
    rw[if_neg (by rw[hb1];simp)]at hr
    simp(disch:=omega) [-zAa,e0,-cut];exact hN.out _<|Nx.mk (f,k+1,E1) (by simp) ⟨by simp only;omega,by simp only;omega,by simp only;omega,hr⟩ (by simp only;omega)
 ·have:k=95:=by omega
  subst this;have:jm bs fr to f 95=[]:=by cases f<;>simp[jm]
  rw[this,zAb]at hr;subst hr;simp(disch:=omega) [-zAa]
theorem JN(l:List Rx)(hl:l.length<=100000)(n fr to:Nat)(E:List NEdge)(W:List Job)(hn:n<=100000)(hE:E.length<=1000000)(hW:W.length<=500000):
 FnH Tryz.prog lC [1] [.strct [.seq 1 (l.map rxV)],.ptr 0 0,nV fr,nV to] (MK n E W) (.tup []) (MK (ba ⟨.seq l,fr,to⟩ n).1 (E++(ba ⟨.seq l,fr,to⟩ n).2.1) (W++(ba ⟨.seq l,fr,to⟩ n).2.2)):=by
 refine FnH.of_image mixed lL lH rfl fun ho hh=>?_;unfold gO;clear ho hh;cases l with
 |nil=>
   simp only[ba,zAb];simp(disch:=omega) [-zAa,MK];refine aw [0] 1 [0,1,2] (by simp) (by simp) (by simp) (by simp[MK]) (cP n E W fr to hE) (by simp[MK]) fun _ _=>?_
   simp(disch:=omega) [-zAa,MK,Aut.fre,NEdge.v]
 |cons p l=>
   have hl2:l.length<=99999:=by simp only[zBc]at hl;omega
   clear hl;simp only[ba,zAb];obtain⟨R,hR⟩:∃R,R=W++iF to p l fr n:=⟨_,rfl⟩;rw[<-hR];obtain⟨ps,hps⟩:∃ps,ps=p::l:=⟨_,rfl⟩;have hpl:ps.length=l.length+1:=by simp[hps]
   rw[<-hps];have htk:(ps.take l.length).map rxV=(ps.map rxV).take l.length:=by rw[List.map_take]
   have hv:bY .sub .i64 ((l.length:Int)+1) 1=some (.int .i64 l.length):=by simp(disch:=omega) [bY,kH]
   simp(disch:=omega) [-zAa,MK,hpl,hv]
   have hjl:∀(l:List Rx)(p:Rx)(fr n:Nat),(iF to p l fr n).length=l.length+1:=fun l=>by
    induction l with
    |nil=>intro p fr n;simp[iF]
    |cons q l ih=>intro p fr n;simp[iF,ih]
   have hRl:R.length=W.length+(l.length+1):=by rw[hR];simp[hjl]
   refine an (fun(x:Nat×Nat×List Job)=>⟨[(1,.ptr 0 0),(2,nV x.2.1),(3,nV to),(4,.ptr 1 0),(8,nV l.length),(27,.seq 1 ((ps.map rxV).take l.length)),(28,nV l.length),(29,nV x.1)],
    [some (.box [nV (n+x.1),.ref 2 E.length,.ref 3 x.2.2.length]),some (.box [.seq 1 (ps.map rxV)]),some (.arr bM 4 (E.map NEdge.v)),some (.arr b5 3 (x.2.2.map sg))]⟩)
    (fun x=>x.1<=l.length/\∃a rest,ps.drop x.1=a::rest/\x.2.2++iF to a rest x.2.1 (n+x.1)=R) (fun x=>l.length-x.1) [] _ (0,fr,W) rfl (by simp) ⟨by simp,p,l,by simp[hps],by simp[hR]⟩ ?_
   rintro⟨k,f,W1⟩ ⟨hk,a,rest,hd,hr⟩ N hN;simp only at hk hd hr;have hdl:=congrArg List.length hd;simp[hpl]at hdl
   have hpa:ps[k]?=some a:=by
    have:=congrArg (·[0]?) hd;simpa[List.getElem?_drop]using this
   have hpt:((ps.map rxV).take l.length)[k]?=if k<l.length then some (rxV a)else none:=by
    rw[List.getElem?_take];split
    ·rw[zBi,hpa];rfl
    ·rfl
   have hWl:W1.length<=R.length:=by rw[<-hr];simp
   have hWl2:W1.length<=700000:=by omega
   clear hWl;obtain⟨t,y,h,h1,h2,h3,h4⟩:=jn a;rcases zBb k l.length with hlt|hge
   ·obtain⟨b,rest2,rfl⟩:∃b rest2,rest=b::rest2:=by
     cases rest with
     |nil=>simp at hdl;omega
     |cons b r=>exact⟨b,r,rfl⟩
    have hd2:ps.drop (k+1)=b::rest2:=by
     have:=congrArg List.tail hd;simpa[List.tail_drop]using this
    simp only[iF]at hr;rw[if_pos hlt]at hpt;simp(disch:=omega) [-zAa,hpt];refine aw [0] 1 [0,2,3] (by simp) (by simp) (by simp) (by simp[MK]) (fP (n+k) E W1 (by omega)) (by simp[MK]) fun _ _=>?_
    simp(disch:=omega) [-zAa,MK];refine aw [0] 1 [0,4,5] (by simp) (by simp) (by simp) (by simp[MK]) (dX (n+k+1) E W1 a f (n+k) (by omega)) (by simp[MK]) fun _ _=>?_
    simp(disch:=omega) [-zAa,MK];exact hN.out _<|Nx.mk (k+1,n+k,W1++[⟨a,f,n+k⟩]) (by simp(disch:=omega) [zCd];omega) ⟨by simp only;omega,b,rest2,hd2,by simpa[zCd]using hr⟩ (by simp only;omega)
   ·have hkk:k=l.length:=by omega
    subst hkk
    have:rest=[]:=by
     cases rest with
     |nil=>rfl
     |cons b r=>simp at hdl
    subst this;simp only[iF]at hr;subst hr;simp(disch:=omega) [-zAa,hpa];refine aw [0] 1 [0,2,3] (by simp) (by simp) (by simp) (by simp[MK]) (dX (n+l.length) E W1 a f to (by omega)) (by simp[MK]) fun _ _=>?_
    simp(disch:=omega) [-zAa,MK]
theorem JQ(l:List Rx)(hl:l.length<=100000)(n fr to:Nat)(E:List NEdge)(W:List Job)(hW:W.length<=500000):
 FnH Tryz.prog lE [1] [.strct [.seq 1 (l.map rxV)],.ptr 0 0,nV fr,nV to] (MK n E W) (.tup []) (MK n E (W++l.map fun p=>⟨p,fr,to⟩)):=by
 refine FnH.of_image mixed lN lJ rfl fun ho hh=>?_;unfold gQ;clear ho hh;obtain⟨ps,hps⟩:∃ps:List Job,ps=l.map fun p=>⟨p,fr,to⟩:=⟨_,rfl⟩;rw[<-hps];have hpl:ps.length=l.length:=by simp[hps]
 simp(disch:=omega) [-zAa,MK]
 refine an (fun(k:Nat)=>⟨[(1,.ptr 0 0),(2,nV fr),(3,nV to),(11,.seq 1 (l.map rxV)),(12,nV l.length),(13,nV k)],
  [some (.box [nV n,.ref 1 E.length,.ref 2 (W++ps.take k).length]),some (.arr bM 4 (E.map NEdge.v)),some (.arr b5 3 ((W++ps.take k).map sg))]⟩)
  (fun k=>k<=l.length) (fun k=>l.length-k) [] _ 0 rfl (by simp) (by simp) ?_
 intro k hk N hN;rcases zBb k l.length with hlt|hge
 ·obtain⟨a,ha⟩:=a8 hlt
  have hpa:ps[k]?=some ⟨a,fr,to⟩:=by rw[hps,zBi,ha];rfl
  obtain⟨t,y,h,h1,h2,h3,h4⟩:=jn a;have hwl:(W++ps.take k).length<=1000000:=by simp;omega
  have e:W++ps.take (k+1)=(W++ps.take k)++[⟨a,fr,to⟩]:=by rw[dc hpa,zAf]
  generalize W++ps.take k=W1 at *;simp(disch:=omega) [-zAa,ha];refine aw [0] 1 [0,1,2] (by simp) (by simp) (by simp) (by simp[MK]) (dX n E W1 a fr to hwl) (by simp[MK]) fun _ _=>?_
  simp(disch:=omega) [-zAa,MK];exact hN.out _<|Nx.mk (k+1) (by simp[e]) (by omega) (by omega)
 ·have hkk:k=l.length:=by omega
  subst hkk;have e:ps.take l.length=ps:=List.take_of_length_le (by omega)
  simp(disch:=omega) [-zAa,e]
theorem JO(p:Rx)(op:Nat)(n fr to:Nat)(E:List NEdge)(W:List Job)(hn:n<=100000)(hE:E.length<=500000)(hW:W.length<=500000):
 FnH Tryz.prog lD [1] [.strct [rxV p,.int .u8 op],.ptr 0 0,nV fr,nV to] (MK n E W) (.tup []) (MK (ba ⟨.rep p op,fr,to⟩ n).1 (E++(ba ⟨.rep p op,fr,to⟩ n).2.1) (W++(ba ⟨.rep p op,fr,to⟩ n).2.2)):=by
 refine FnH.of_image mixed lM lI rfl fun ho hh=>?_;unfold gP;clear ho hh;obtain⟨t,y,h,h1,h2,h3,h4⟩:=jn p;by_cases h63:op=63
 ·subst h63
  simp only[ba,if_true];simp(disch:=omega) [-zAa,MK];refine aw [0] 1 [0,1,2] (by simp) (by simp) (by simp) (by simp[MK]) (cP n E W fr to (by omega)) (by simp[MK]) fun _ _=>?_
  simp(disch:=omega) [-zAa,MK];refine aw [0] 1 [0,4,5] (by simp) (by simp) (by simp) (by simp[MK]) (dX n (E++[Aut.fre fr to]) W p fr to (by omega)) (by simp[MK]) fun _ _=>?_
  simp(disch:=omega) [-zAa,MK]
 ·by_cases h42:op=42
  ·subst h42
   simp only[ba,if_true,if_neg (show ¬(42:Nat)=63 by omega)]
   simp(disch:=omega) [-zAa,MK];refine aw [0] 1 [0,1,2] (by simp) (by simp) (by simp) (by simp[MK]) (fP n E W (by omega)) (by simp[MK]) fun _ _=>?_
   simp(disch:=omega) [-zAa,MK];refine aw [0] 1 [0,4,5] (by simp) (by simp) (by simp) (by simp[MK]) (cP (n+1) E W fr n (by omega)) (by simp[MK]) fun _ _=>?_
   simp(disch:=omega) [-zAa,MK];refine aw [0] 1 [0,6,7] (by simp) (by simp) (by simp) (by simp[MK]) (dX (n+1) (E++[Aut.fre fr n]) W p n n (by omega)) (by simp[MK]) fun _ _=>?_
   simp(disch:=omega) [-zAa,MK];refine aw [0] 1 [0,8,9] (by simp) (by simp) (by simp) (by simp[MK]) (cP (n+1) (E++[Aut.fre fr n]) (W++[⟨p,n,n⟩]) n to (by simp;omega)) (by simp[MK]) fun _ _=>?_
   simp(disch:=omega) [-zAa,MK]
  ·simp only[ba,if_neg h63,if_neg h42]
   have z63:¬((op:Int)=63):=by omega
   have z42:¬((op:Int)=42):=by omega
   simp(disch:=omega) [-zAa,MK,z63,z42];refine aw [0] 1 [0,1,2] (by simp) (by simp) (by simp) (by simp[MK]) (fP n E W (by omega)) (by simp[MK]) fun _ _=>?_
   simp(disch:=omega) [-zAa,MK];refine aw [0] 1 [0,4,5] (by simp) (by simp) (by simp) (by simp[MK]) (fP (n+1) E W (by omega)) (by simp[MK]) fun _ _=>?_
   simp(disch:=omega) [-zAa,MK];refine aw [0] 1 [0,6,7] (by simp) (by simp) (by simp) (by simp[MK]) (cP (n+1+1) E W fr n (by omega)) (by simp[MK]) fun _ _=>?_
   simp(disch:=omega) [-zAa,MK];refine aw [0] 1 [0,8,9] (by simp) (by simp) (by simp) (by simp[MK]) (dX (n+1+1) (E++[Aut.fre fr n]) W p n (n+1) (by omega)) (by simp[MK]) fun _ _=>?_
   simp(disch:=omega) [-zAa,MK];refine aw [0] 1 [0,10,11] (by simp) (by simp) (by simp) (by simp[MK]) (cP (n+1+1) (E++[Aut.fre fr n]) (W++[⟨p,n,n+1⟩]) (n+1) n (by simp;omega)) (by simp[MK]) fun _ _=>?_
   simp(disch:=omega) [-zAa,MK];refine aw [0] 1 [0,12,13] (by simp) (by simp) (by simp) (by simp[MK]) (cP (n+1+1) (E++[Aut.fre fr n]++[Aut.fre (n+1) n]) (W++[⟨p,n,n+1⟩]) (n+1) to (by simp;omega)) (by simp[MK]) fun _ _=>?_
   simp(disch:=omega) [-zAa,MK];omega
theorem zp(x:Rx):1<=dA x:=by cases x<;>simp only[dA]<;>omega
theorem pB:∀l:List Rx,l.length<=eQ l
 |[]=>by simp[eQ]
 |p::l=>by have h1:=zp p;have h2:=pB l;simp only[eQ,zBc];omega
theorem za:∀l:List Job,l.length<=bj l
 |[]=>by simp[bj]
 |p::l=>by have h1:=zp p.p;have h2:=za l;simp only[bj,zBc];omega
theorem wtrc{Φ:Ctr}{d:Option Nat}{x hi:AO}{sz id n:Nat}{k:IntKind}{b:Int}{e:Nat}{l:List V}{K:St->Prop}{σ:St}(hx:σ.ev x=some (.ref id n))(hb:σ.ev hi=some (.int k b))(ha:σ.arr? id=some (e,sz,l))(hn:n=l.length)(h0:0<=b)(hbn:b<=n)
 (h:K (St.put { σ with h:=σ.h.set id none++[some (Ob.arr e sz (l.take b.toNat))] } d (.ref σ.h.length b.toNat))):af Φ d (.trc x hi sz) K σ:=by
 simp only[af,hx,hb,ha];exact⟨trivial,hn,h0,hbn,h⟩
theorem f_Net(x:Rx)(N0:Net)(hx:wfR x=true)(hN0:Dy x=some N0)(hs:dA x<=2000)(hfr:fresh x<=2000):Fn Tryz.prog cN [rxP x] (.strct (Net.c N0)):=by
 refine Fn.of_imageE mixed iU iR rfl fun ho=>?_;unfold eu;simp only[oks,ok,and_true]at ho;clear ho;obtain⟨C,hC⟩:∃C:List V,C=Net.c N0:=⟨_,rfl⟩;rw[<-hC];simp only[Dy,zBe]at hN0;obtain⟨⟨n1,E1⟩,hgo,hN1⟩:=hN0;simp only at hN1;obtain⟨t,y,h,h1,h2,h3,h4⟩:=jn x;simp(disch:=omega) [-zAa];refine aw [] 0 [] (by simp) (by simp) (by simp) (by simp) ((yO x).toH (by simp[ah]) (by simp[purs])) (by simp) fun _ _=>?_
 simp(disch:=omega) [-zAa];refine aw [0] 1 [1] (by simp) (by simp) (by simp) (by simp) (yY 2 x 0 1) (by simp) fun _ _=>?_
 simp(disch:=omega) [-zAa]
 refine an (fun(x:Nat×Nat×List NEdge×List Job)=>⟨[(2,.ptr 0 0),(3,.ptr 1 0)],[some (.box [nV 0,nV 0,nV 0,.nil 4]),some (.box [nV x.2.1,.ref 2 x.2.2.1.length,.ref 3 x.2.2.2.length]),some (.arr bM 4 (x.2.2.1.map NEdge.v)),some (.arr b5 3 (x.2.2.2.map sg))]⟩)
  (fun x=>oC x.1 x.2.1 x.2.2.1 x.2.2.2=some (n1,E1)/\x.2.1+aV x.2.2.2<=2002/\x.2.2.1.length+95*bj x.2.2.2<=190000/\∀j∈x.2.2.2,wfR j.p=true) (fun x=>x.1) [.b 1 1 bM 4] _ (dA x+1,2,[],[⟨x,0,1⟩]) rfl (by simp) ⟨hgo,by simp[aV];omega,by simp[bj];omega,fun j hj=>by simp at hj;subst hj;exact hx⟩ ?_
 rintro⟨f,n,E,W⟩ ⟨hg,hf1,hf2,hw⟩ N hN;simp only at hg hf1 hf2 hw;cases f with
 |zero=>simp[oC]at hg
 |succ f=>
   have hwl:=za W;simp only[oC]at hg;cases hl:W.getLast? with
   |none=>
     have:W=[]:=by simpa using hl
     subst this;rw[hl]at hg;simp only[zCg,zCe]at hg;obtain⟨rfl,rfl⟩:=hg;clear hN;simp(disch:=omega) [-zAa];simp[hC,<-hN1]
   |some j=>
     have e:=qY hl;rw[hl]at hg;simp only at hg;obtain⟨W0,hW0⟩:∃W0,W0=W.dropLast:=⟨_,rfl⟩;rw[<-hW0]at e hg;clear hW0 hl;subst e;obtain⟨s1,s2,s3⟩:=Ao j n;have hz:bj (W0++[j])=bj W0+dA j.p:=by rw[eL];simp[bj]
     have hz2:bj (W0++(ba j n).2.2)=bj W0+bj (ba j n).2.2:=eL _ _;have hz3:aV (W0++[j])=aV W0+fresh j.p:=by rw[ee];simp[aV]
     have hz4:aV (W0++(ba j n).2.2)=aV W0+aV (ba j n).2.2:=ee _ _;have hjm:((W0++[j]).map sg)[W0.length]?=some (sg j):=by rw[List.map_append,List.getElem?_append_right (by simp)];simp
     have htk:((W0++[j]).map sg).take W0.length=W0.map sg:=by simp
     have hln:(W0++[j]).length=W0.length+1:=by simp
     have hv:bY .sub .i64 ((W0.length:Int)+1) 1=some (.int .i64 W0.length):=by simp(disch:=omega) [bY,kH]
     have fin:∀τ:St,τ.nrm [2,3]=⟨[(2,.ptr 0 0),(3,.ptr 1 0)],[some (.box [nV 0,nV 0,nV 0,.nil 4]),some (.box [nV (ba j n).1,.ref 2 (E++(ba j n).2.1).length,.ref 3 (W0++(ba j n).2.2).length]),some (.arr bM 4 ((E++(ba j n).2.1).map NEdge.v)),some (.arr b5 3 ((W0++(ba j n).2.2).map sg))]⟩->N τ:=by
      intro τ hτ;refine hN.out τ<|Nx.mk (f,(ba j n).1,E++(ba j n).2.1,W0++(ba j n).2.2) hτ ⟨hg,by simp only;omega,by simp only[zBg]at hf2⊢;omega,fun k hk=>?_⟩ (by simp only;omega)
      rcases zAe.1 hk with hk|hk
      ·exact hw k (by simp[hk])
      ·exact HW (hw j (by simp)) k hk
     have hwj:=hw j (by simp)
     replace fin:=hid fin;have hEl:E.length<=190000:=by omega
     have hWl:W0.length<=10000:=by rw[hln]at hwl;omega
     have hnl:n<=2002:=by omega
     have hsj:dA j.p<=2000:=by omega
     clear hN s1 s2 s3 hz hz2 hz3 hz4 hw hg hf1 hf2 hwl;obtain⟨p,fr,to⟩:=j;obtain⟨t,y,h,h1,h2,h3,h4⟩:=jn p;generalize hWW:W0++[(⟨p,fr,to⟩:Job)]=WW at *;simp(disch:=omega) [-zAa,hjm,htk,hln,hv,sg];refine wtrc (id:=3) (n:=W0.length+1) (b:=(W0.length:Int)) (l:=WW.map sg) rfl rfl rfl (by simp[hln]) (by omega) (by omega) ?_
     simp(disch:=omega) [-zAa,htk];cases p with
     |set bs=>
       simp only[wfR,decide_eq_true_eq]at hwj;simp only[ba,zAb]at fin;simp(disch:=omega) [-zAa,rxV];refine aw [1] 1 [1,2,5] (by simp) (by simp) (by simp[MK]) (by simp[MK]) (JM bs hwj n fr to E W0 (by omega)) (by simp[MK]) fun _ _=>?_
       simp(disch:=omega) [-zAa,MK];exact fin.out _ (by simp)
     |seq l=>
       have hll:=pB l;simp only[dA]at hsj;have hvs:=uZ l;simp(disch:=omega) [-zAa,rxV,hvs];refine aw [1] 1 [1,2,5] (by simp) (by simp) (by simp[MK]) (by simp[MK]) (JN l (by omega) n fr to E W0 (by omega) (by omega) (by omega)) (by simp[MK]) fun _ _=>?_
       simp(disch:=omega) [-zAa,MK];exact fin.out _ (by simp)
     |alt l=>
       have hll:=pB l;simp only[dA]at hsj;have hvs:=uZ l;simp only[ba,zAb]at fin;simp(disch:=omega) [-zAa,rxV,hvs];refine aw [1] 1 [1,2,5] (by simp) (by simp) (by simp[MK]) (by simp[MK]) (JQ l (by omega) n fr to E W0 (by omega)) (by simp[MK]) fun _ _=>?_
       simp(disch:=omega) [-zAa,MK];exact fin.out _ (by simp)
     |rep p op=>
       simp(disch:=omega) [-zAa,rxV];refine aw [1] 1 [1,2,5] (by simp) (by simp) (by simp[MK]) (by simp[MK]) (JO p op n fr to E W0 (by omega) (by omega) (by omega)) (by simp[MK]) fun _ _=>?_
       simp(disch:=omega) [-zAa,MK];exact fin.out _ (by simp)
def ny:List Bool:=zAg 95 true
def Mc(c:Nat):List Bool:=ny.set c false
def digS:List Bool:=zAg 16 false++zAg 10 true++zAg 69 false
def rx0:Rx:=.rep (.set (jd 65)) 42
def rx1:Rx:=.rep (.alt [(.set (jd 65)),(.set (jd 66))]) 43
def rx2:Rx:=.rep (.set digS) 43
def rx3:Rx:=.seq [(.set (jd 88)),.set ny,(.set (jd 89))]
def rx4:Rx:=.rep (.set (Mc 65)) 42
def rx5:Rx:=.seq []
def rx6:Rx:=.alt [(.set (jd 65)),.seq [(.set (jd 66)),(.set (jd 66))],(.set (jd 67))]
def rx7:Rx:=.rep (.set ny) 42
def rx8:Rx:=.rep (.set (Mc 26)) 42
def gS:List (Str×Rx):=[([97,42],rx0),([40,97,124,98,41,43],rx1),([91,48,45,57,93,43],rx2),([120,46,121],rx3),([91,94,97,93,42],rx4),([],rx5),([97,124,98,98,124,99],rx6),([46,42],rx7),([91,94,58,93,42],rx8)]
theorem Sk:(n7 uU 300 16).h aB [.str [97,42]] []=some (.tup [.ptr 0 0,.int .i64 0],[some (.box [(rxV rx0)])]):=by kernel_rfl
theorem GG:Fn Tryz.prog aB [.str [97,42]] (.tup [rxP rx0,.int .i64 0]):=
 ((cJ mixed ig 300 16).h _ _ _ _ _ _ (by kernel_rfl) Sk).boxed2 (cs':=[rxV rx0]) (by simp[bU]) rfl (by kernel_rfl)
theorem Sj:(n7 uU 300 16).h aB [.str [40,97,124,98,41,43]] []=some (.tup [.ptr 0 0,.int .i64 0],[some (.box [(rxV rx1)])]):=by kernel_rfl
theorem GF:Fn Tryz.prog aB [.str [40,97,124,98,41,43]] (.tup [rxP rx1,.int .i64 0]):=
 ((cJ mixed ig 300 16).h _ _ _ _ _ _ (by kernel_rfl) Sj).boxed2 (cs':=[rxV rx1]) (by simp[bU]) rfl (by kernel_rfl)
theorem Si:(n7 uU 300 16).h aB [.str [91,48,45,57,93,43]] []=some (.tup [.ptr 0 0,.int .i64 0],[some (.box [(rxV rx2)])]):=by kernel_rfl
theorem GE:Fn Tryz.prog aB [.str [91,48,45,57,93,43]] (.tup [rxP rx2,.int .i64 0]):=
 ((cJ mixed ig 300 16).h _ _ _ _ _ _ (by kernel_rfl) Si).boxed2 (cs':=[rxV rx2]) (by simp[bU]) rfl (by kernel_rfl)
theorem Sh:(n7 uU 300 16).h aB [.str [120,46,121]] []=some (.tup [.ptr 0 0,.int .i64 0],[some (.box [(rxV rx3)])]):=by kernel_rfl
theorem GD:Fn Tryz.prog aB [.str [120,46,121]] (.tup [rxP rx3,.int .i64 0]):=
 ((cJ mixed ig 300 16).h _ _ _ _ _ _ (by kernel_rfl) Sh).boxed2 (cs':=[rxV rx3]) (by simp[bU]) rfl (by kernel_rfl)
theorem Sg:(n7 uU 300 16).h aB [.str [91,94,97,93,42]] []=some (.tup [.ptr 0 0,.int .i64 0],[some (.box [(rxV rx4)])]):=by kernel_rfl
theorem GC:Fn Tryz.prog aB [.str [91,94,97,93,42]] (.tup [rxP rx4,.int .i64 0]):=
 ((cJ mixed ig 300 16).h _ _ _ _ _ _ (by kernel_rfl) Sg).boxed2 (cs':=[rxV rx4]) (by simp[bU]) rfl (by kernel_rfl)
theorem Sf:(n7 uU 300 16).h aB [.str []] []=some (.tup [.ptr 0 0,.int .i64 0],[some (.box [(rxV rx5)])]):=by kernel_rfl
theorem GB:Fn Tryz.prog aB [.str []] (.tup [rxP rx5,.int .i64 0]):=
 ((cJ mixed ig 300 16).h _ _ _ _ _ _ (by kernel_rfl) Sf).boxed2 (cs':=[rxV rx5]) (by simp[bU]) rfl (by kernel_rfl)
theorem Se:(n7 uU 300 16).h aB [.str [97,124,98,98,124,99]] []=some (.tup [.ptr 0 0,.int .i64 0],[some (.box [(rxV rx6)])]):=by kernel_rfl
theorem Gz:Fn Tryz.prog aB [.str [97,124,98,98,124,99]] (.tup [rxP rx6,.int .i64 0]):=
 ((cJ mixed ig 300 16).h _ _ _ _ _ _ (by kernel_rfl) Se).boxed2 (cs':=[rxV rx6]) (by simp[bU]) rfl (by kernel_rfl)
theorem Sd:(n7 uU 300 16).h aB [.str [46,42]] []=some (.tup [.ptr 0 0,.int .i64 0],[some (.box [(rxV rx7)])]):=by kernel_rfl
theorem Gy:Fn Tryz.prog aB [.str [46,42]] (.tup [rxP rx7,.int .i64 0]):=
 ((cJ mixed ig 300 16).h _ _ _ _ _ _ (by kernel_rfl) Sd).boxed2 (cs':=[rxV rx7]) (by simp[bU]) rfl (by kernel_rfl)
theorem Sc:(n7 uU 300 16).h aB [.str [91,94,58,93,42]] []=some (.tup [.ptr 0 0,.int .i64 0],[some (.box [(rxV rx8)])]):=by kernel_rfl
theorem Gx:Fn Tryz.prog aB [.str [91,94,58,93,42]] (.tup [rxP rx8,.int .i64 0]):=
 ((cJ mixed ig 300 16).h _ _ _ _ _ _ (by kernel_rfl) Sc).boxed2 (cs':=[rxV rx8]) (by simp[bU]) rfl (by kernel_rfl)
theorem Qj{s:Str}{x:Rx}(h:(s,x)∈gS):Fn Tryz.prog aB [.str s] (.tup [rxP x,.int .i64 0]):=by
 simp only[gS,zAj,zCe,List.not_mem_nil,or_false]at h;rcases h with⟨rfl,rfl⟩|⟨rfl,rfl⟩|⟨rfl,rfl⟩|⟨rfl,rfl⟩|⟨rfl,rfl⟩|⟨rfl,rfl⟩|⟨rfl,rfl⟩|⟨rfl,rfl⟩|⟨rfl,rfl⟩
 ·exact GG
 ·exact GF
 ·exact GE
 ·exact GD
 ·exact GC
 ·exact GB
 ·exact Gz
 ·exact Gy
 ·exact Gx
def F4(e:Str)(w:Str):Rx:=SW (w++e)
def R5(ws:List Str):Rx:=iq [rx8,IM [iq (ws.map (F4 [58])),rx7]]
end Go.Abs
end
