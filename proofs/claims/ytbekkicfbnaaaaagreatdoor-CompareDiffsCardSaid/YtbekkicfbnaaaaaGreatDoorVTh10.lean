/- The automaton of a net whose states are told apart by few classes of words: it is there, and accepts what the net does. No condition. -/
import Derived.Test.YtbekkicfbnaaaaaGreatDoorVTh4
import Derived.Test.YtbekkicfbnaaaaaGreatDoorVTh8
import Derived.Test.YtbekkicfbnaaaaaGreatDoorVF1
set_option linter.all false open List renaming reduceReplicate→zAa,mem_map→zAb,idxOf_lt_length_of_mem→zAd,length_cons→zAe,length_map→zAg,getElem?_replicate→zAh,map_cons→zAi,length_replicate→zAj,mem_cons→zBa,not_mem_nil→zBd,length_eq_zero_iff→zBe,mem_append→zBf,append_nil→zBg,eq_nil_or_concat→zBh,map_map→zBi,length_append→zBj,getElem_idxOf→zCa,getElem?_set→zCb,take_length→zCc,all_eq_true→zCd,length_nil→zCe,map_take→zCg
open Nat renaming mul_le_mul→zAc,mul_succ→zCh,le_refl→zCi
open Bool renaming and_eq_true→zAf,and_true→zBb
open Option renaming not_isSome→zBc
open Prod.mk renaming injEq→zCf
open List.cons renaming injEq→zCj open Option renaming some→ś open Bool renaming true→ť
section
namespace Go.Abs
open Go.Aut
theorem Pj{e c}(hc:c<95):sF e c=tk e c:=by
 unfold sF tk loE hiE;grind
theorem Rg.inv{E q w}(h:Rg E [] q w):(w=[]/\NReach E 0 q)\/∃u c e,w=u++[c]/\c<95/\e∈E/\tk e c=ť/\Rg E [] e.fr u/\NReach E e.to q:=by
 induction h with
 |start=>exact .inl ⟨rfl,.refl⟩
 |free _ he hf h2 ih=>
   rcases ih with⟨h3,h4⟩|⟨u,c,e',h3,h4,h5,h6,h7,h8⟩
   ·exact .inl ⟨h3,h4.step he hf h2⟩
   ·exact .inr ⟨u,c,e',h3,h4,h5,h6,h7,h8.step he hf h2⟩
 |take h1 he ht hc h2 _=>exact .inr ⟨_,_,_,rfl,hc,he,ht,by rw[h2];exact h1,.refl⟩
 |job _ hj=>cases hj
theorem Rg.reach{E p q u}(h:Rg E [] p u)(hr:NReach E p q):Rg E [] q u:=by
 induction hr with
 |refl=>exact h
 |step _ he hf h2 ih=>exact .free ih he hf h2
theorem Rg.lt{E n}(h0:0<n)(hE:∀e∈E,e.to<n){q u}(h:Rg E [] q u):q<n:=by
 cases h with
 |start=>exact h0
 |free _ he _ _=>exact hE _ he
 |take _ he _ _ _=>exact hE _ he
 |job _ hj _ _=>cases hj
def Ei(N:Net)(u:List Nat):List Nat:=u.foldl (eM (gX N)) (cj N N.start)
theorem Pl(N)(u)(c):Ei N (u++[c])=eM (gX N) (Ei N u) c:=by simp[Ei]
theorem x5{N}(h:N.ok)(hs:N.start=0):∀(m:Nat)(u:List Nat),u.length=m->(∀c∈u,c<95)->wOK (Ei N u)/\∀p<512,(bB (Ei N u) p=ť↔Rg N.edges [] p u)
 |0,u,hm,_=>by
   have:u=[]:=zBe.1 hm;subst this;refine⟨iQ h h.start,λp hp=>?_⟩;simp only[Ei,List.foldl_nil];rw[qp h h.start hp,hs];constructor
   ·intro hr;exact Rg.reach .start hr
   grind[Rg.inv]
 |m+1,u,hm,hu=>by
   obtain⟨v,c,rfl⟩:∃v c,u=v++[c]:=by
    rcases zBh u with rfl|⟨l,x,rfl⟩
    ·simp at hm
    simp
   have hc:c<95:=hu c (by simp)
   obtain⟨g1,g2⟩:=x5 h hs m v (by simpa using hm) (λd hd=>hu d (by simp[hd]))
   obtain⟨hT1,hT2⟩:=vt h;obtain⟨k1,k2⟩:=vT g1 (f:=ct (gX N) c) (λq _=>BZ hT1 hc q);rw[Pl];refine⟨k1,λp hp=>?_⟩;rw[show eM (gX N) (Ei N v) c=ofW (ct (gX N) c) (Ei N v)from rfl,k2 p hp]
   constructor
   ·rintro⟨q,hq,h1,h2⟩
    obtain⟨e,he,h3,h4,h5⟩:=(hT2 c q hc p hp).1 h2;have h6:=(qp h (h.ends e he).2.1 hp).1 h5;rw[Pj hc]at h4;exact Rg.reach (Rg.take ((g2 q hq).1 h1) he h4 hc h3) h6
   ·intro hr
    rcases Rg.inv hr with⟨h2,_⟩|⟨v',c',e,h2,h3,h4,h5,h6,h7⟩
    ·simp at h2
    ·obtain⟨rfl,h2⟩:=List.append_inj' h2 rfl
     simp at h2;subst h2;have hq:=Rg.lt (by have:=h.pos;exact this) (λe he=>(h.ends e he).2.1) h6
     have hle:=h.le;refine⟨e.fr,by omega,(g2 _ (by omega)).2 h6,(hT2 c e.fr hc p hp).2 ⟨e,h4,rfl,by rw[Pj hc];exact h5,(qp h (h.ends e h4).2.1 hp).2 h7⟩⟩
theorem aaJ{N}(h:N.ok)(hs:N.start=0){k:List Nat->Nat}{m}(hm:m<=500)(hk:∀u:List Nat,(∀c∈u,c<95)->k u<m)(hsat:∀q<N.n,sat (λu v=>k u=k v) (Rg N.edges [] q)):
 ∃b,ofP N=ś b/\b.ok/\b.n<=500/\∀w:List Nat,(∀c∈w,c<95)->(b.L 0 w=ť↔Rg N.edges [] N.stop w):=by
 have hle:=h.le
 have same:∀u v:List Nat,(∀c∈u,c<95)->(∀c∈v,c<95)->k u=k v->Ei N u=Ei N v:=by
  intro u v hu hv huv;obtain⟨g1,g2⟩:=x5 h hs _ u rfl hu;obtain⟨f1,f2⟩:=x5 h hs _ v rfl hv;refine aan g1 f1 λq hq=>?_;rw[Bool.eq_iff_iff,g2 q hq,f2 q hq];have lt:∀{w:List Nat},Rg N.edges [] q w->q<N.n:=λhr=>Rg.lt h.pos (λe he=>(h.ends e he).2.1) hr;exact⟨λhr=>hsat q (lt hr) u v hu hv huv hr,λhr=>hsat q (lt hr) v u hv hu huv.symm hr⟩
 obtain⟨D,hDd⟩:∃D:List Nat->Prop,D=λx=>∃u:List Nat,(∀c∈u,c<95)/\x=Ei N u:=⟨_,rfl⟩
 have hD:∀q c,D q->c<95->D (eM (gX N) q c):=by
  intro q c hq hc;rw[hDd]at hq⊢;obtain⟨u,hu,rfl⟩:=hq;refine⟨u++[c],λd hd=>?_,(Pl N u c).symm⟩;grind
 have hN:∀l:List (List Nat),(∀x∈l,D x)->mA eqB l->l.length<=500:=by
  intro l hl ha;have hnd:=jf ha
  open Classical in
  obtain⟨g,hg⟩:∃g:List Nat->List Nat,∀x,D x->(∀c∈g x,c<95)/\x=Ei N (g x):=by
   refine⟨λx=>if hx:∃u:List Nat,(∀c∈u,c<95)/\x=Ei N u then hx.choose else[],λx hx=>?_⟩
   rw[hDd]at hx;simp only[dif_pos hx];grind
  have h1:(l.map λx=>k (g x)).Nodup:=by
   unfold List.Nodup;rw[List.pairwise_map];grind[List.Pairwise.imp_of_mem]
  have h2:=cU m _ h1 (λx hx=>by
   grind)
  simp at h2;omega
 have h0:D (cj N N.start):=by rw[hDd];exact⟨[],by simp,rfl⟩
 obtain⟨l,rows,hw,hI,hl0⟩:=Ax dV hD hN h0;have hpos:0<l.length:=(List.getElem?_eq_some_iff.1 hl0).1;obtain⟨haok,hlang⟩:=BL (good:=λs=>bB s N.stop) hI hpos;obtain⟨b,hb1,hb2,hb3⟩:=Wz haok;have hll:l.length<=500:=hN l hI.dom hI.apart;refine⟨b,?_,hb2.ok,?_,λw hww=>?_⟩
 ·unfold ofP
  rw[hw];exact hb1
 ·have:(Aut.mk rows (l.map λs=>bB s N.stop)).n=l.length:=hI.len
  omega
 ·rw[hb2.lang (vv _ _ _),hlang w 0 _ hww hl0]
  have hst:=h.stop;exact(x5 h hs _ w rfl hww).2 N.stop (by omega)
end Go.Abs
end
section
namespace Go.Abs
open Go.Aut
attribute [-simp] getElem?_pos zBc zBi cl nt
def sw(s:Str):List Nat:=s.map λc=>c.toNat-32
def ep(s:Str):Prop:=∀c∈s,32<=c.toNat/\c.toNat<=126
theorem pT{s}(h:ep s):∀c∈sw s,c<95:=λc hc=>by
 simp only[sw,zAb]at hc;obtain⟨x,hx,rfl⟩:=hc;have:=h x hx;omega
theorem XQ:∀{s t:Str},ep s->ep t->sw s=sw t->s=t
 |[],[],_,_,_=>rfl
 |[],y::t,_,_,h=>by simp[sw]at h
 |x::s,[],_,_,h=>by simp[sw]at h
 |x::s,y::t,hs,ht,h=>by
   simp only[sw,zAi,zCj]at h;have h1:=hs x (by simp)
   have h2:=ht y (by simp)
   have:x=y:=by rw[<-UInt8.toNat_inj];omega
   rw[this,XQ (s:=s) (t:=t) (λc hc=>hs c (by simp[hc])) (λc hc=>ht c (by simp[hc])) h.2]
theorem abJ(s t):sw (s++t)=sw s++sw t:=by simp[sw]
theorem Uh{c}(hc:c<95){u}:den (.set (ew c)) u↔u=[c]:=by
 simp only[den,ew];grind
theorem abc{l u}:den (ng l) u↔tH l u:=by
 rcases l with _|⟨p,_|⟨q,l⟩⟩
 ·simp only[ng,den]
 ·simp only[ng];exact Xf.symm
 ·simp only[ng,den]
theorem ZR{u}:¬den Fo u:=by
 grind[Fo,den]
theorem By{l u}:den (bw l) u↔∃p∈l,den p u:=by
 rcases l with _|⟨p,_|⟨q,l⟩⟩
 ·grind[bw,ZR]
 ·simp[bw]
 simp_all[bw,den,JJ]
theorem QB:∀{s:Str},ep s->∀{u:List Nat},tH (s.map λc=>.set (ew (c.toNat-32))) u↔u=sw s
 |[],_,u=>by simp[tH,sw]
 |x::s,hs,u=>by
   have hx:=hs x (by simp)
   have ih:=@QB s (λc hc=>hs c (by simp[hc]))
   simp only[zAi,tH,cat,sw];constructor
   ·rintro⟨a,b,rfl,h1,h2⟩
    grind[Uh,sw]
   ·rintro rfl
    exact⟨[x.toNat-32],sw s,by simp[sw],(Uh (by omega)).2 rfl,ih.2 rfl⟩
theorem Is{s}(hs:ep s){u}:den (ED s) u↔u=sw s:=by
 grind[ED,abc,QB]
theorem BV{bs u}:Star (den (.set bs)) u↔∀c∈u,bs[c]?=ś true:=by
 constructor
 ·intro h
  induction h with
  |nil=>simp
  |snoc _ h2 ih=>
    simp only[den]at h2;grind
 ·intro h
  have:∀(m:Nat)(u:List Nat),u.length=m->(∀c∈u,bs[c]?=ś ť)->Star (den (.set bs)) u:=by
   intro m
   induction m with
   |zero=>intro u hu _;rw[zBe.1 hu];exact .nil
   |succ m ih=>
     intro u hu hc
     obtain⟨l,x,rfl⟩:∃l x,u=l++[x]:=by
      rcases zBh u with rfl|⟨l,x,rfl⟩
      ·simp at hu
      simp
     refine .snoc (ih l (by simpa using hu) λc hcm=>hc c (by simp[hcm])) ?_
     simp_all[den]
  simp_all
theorem LZ{c}:adw[c]?=ś ť↔c<95:=by
 grind[adw]
theorem Jj{d c}:(aff d)[c]?=ś ť↔c<95/\c≠d:=by
 grind[aff,LZ]
theorem QA{p u}:den (.rep p 42) u↔Star (den p) u:=by simp_all[den,if_neg,if_true]
theorem abb{u}:den rx7 u↔∀c∈u,c<95:=by
 simp_all[rx7,QA,BV,forall₂_congr,LZ]
theorem aiR{u}:den rx8 u↔∀c∈u,c<95/\c≠26:=by
 simp_all[rx8,QA,BV,forall₂_congr,Jj]
theorem Xd{ws:List Str}(hs:∀w∈ws,ep w){u}:den (bw (ws.map (oS []))) u↔∃w∈ws,u=sw w:=by
 rw[By];constructor
 ·rintro⟨p,hp,h⟩
  obtain⟨w,hw,rfl⟩:=zAb.1 hp;grind[oS,Is]
 ·rintro⟨w,hw,rfl⟩
  refine⟨_,zAb.2 ⟨w,hw,rfl⟩,?_⟩;simp_all[oS,zBg,Is]
theorem Eg{w}(h:ep w):ep (w++[58]):=λc hc=>by
 rcases zBf.1 hc with hc|hc
 ·exact h c hc
 simp_all
theorem IQ(w):sw (w++[58])=sw w++[26]:=by simp[sw]
theorem Xe{ws:List Str}(hs:∀w∈ws,ep w){u}:den (bw (ws.map (oS [58]))) u↔∃w∈ws,u=sw w++[26]:=by
 rw[By];constructor
 ·rintro⟨p,hp,h⟩
  obtain⟨w,hw,rfl⟩:=zAb.1 hp;exact⟨w,hw,by rw[<-IQ];exact(Is (Eg (hs w hw))).1 h⟩
 ·rintro⟨w,hw,rfl⟩
  refine⟨_,zAb.2 ⟨w,hw,rfl⟩,?_⟩;rw[oS,<-IQ];exact(Is (Eg (hs w hw))).2 rfl
theorem aba{ws}(hs:∀w∈ws,ep w){u}:den (Q6 ws) u↔(∀c∈u,c<95/\c≠26)\/∃w∈ws,∃r:List Nat,u=sw w++[26]++r/\∀c∈r,c<95:=by
 rw[Q6,By];simp only[zBa,zBd,or_false,exists_eq_or_imp,exists_eq_left,aiR,abc,tH,cat,Xe hs,abb];refine or_congr_right ?_;constructor
 ·grind
 ·rintro⟨w,hw,r,rfl,h⟩
  exact⟨sw w++[26],r,rfl,⟨w,hw,rfl⟩,r,[],by simp,h,rfl⟩
def qB(x:Rx)(b:Aut):Prop:=∃N,PO x=ś N/\N.ok/\N.edges.length<=1000000/\ofP N=ś b/\b.ok/\b.n<=500/\∀w:List Nat,(∀c∈w,c<95)->(b.L 0 w=ť↔den x w)
theorem Yu{cls x N}(h:NetSpec cls x N)(hf:fresh x<=498):N.ok:=
 ⟨by rw[h.n];omega,by rw[h.n];omega,by rw[h.start,h.n];omega,by rw[h.stop,h.n];omega,λe he=>by
   have h1:=h.edges e he;have h2:=h.bytes e he;omega⟩
theorem Xo{x}(hw:wfR x=ť)(hf:fresh x<=498)(hz:cC x<=10000){k:List Nat->Nat}{m}(hm:m<=500)(hk:∀u:List Nat,(∀c∈u,c<95)->k u<m)
 (h0:sat (λu v=>k u=k v) λu=>u=[]) (h1:sat (λu v=>k u=k v) (den x)) (h2:gY (λu v=>k u=k v) (λu=>u=[]) x):∃b,qB x b:=by
 obtain⟨N,hN,hs⟩:=AM hw h0 h1 h2;have hok:=Yu hs hf;obtain⟨b,g1,g2,g3,g4⟩:=aaJ hok hs.start hm hk hs.sat;refine⟨b,N,hN,hok,by have:=hs.len;omega,g1,g2,g3,λw hww=>?_⟩
 rw[g4 w hww,hs.stop,hs.lang w]
theorem vz(P):sat (λu v=>u=v) P:=λu v _ _ h hp=>h ▸ hp
mutual
theorem sL:∀(x:Rx)(X:Lg),gY (λu v=>u=v) X x
 | .set _,_=>by simp only[gY]
 | .seq l,X=>by simp only[gY];exact aaA l X
 | .alt l,X=>by simp only[gY];exact aaB l X
 | .rep p op,X=>by
   simp only[gY];split
   ·exact sL p X
   ·split
    ·exact⟨vz _,sL p _⟩
    ·exact⟨vz _,vz _,sL p _⟩
theorem aaA:∀(l:List Rx)(X:Lg),Ek (λu v=>u=v) X l
 |[],_=>by simp only[Ek]
 |p::l,X=>by simp only[Ek];exact⟨sL p X,.inr ⟨vz _,aaA l _⟩⟩
theorem aaB:∀(l:List Rx)(X:Lg),Q8 (λu v=>u=v) X l
 |[],_=>by simp only[Q8]
 |p::l,X=>by simp only[Q8];exact⟨sL p X,aaB l X⟩
end
def O4(f:Nat->Bool):Nat->Nat
 |0=>0
 |n+1=>2*O4 f n+(if f n=ť then 1 else 0)
theorem aa9(f):∀n,O4 f n<2^n
 |0=>by simp[O4]
 |n+1=>by have:=aa9 f n;grind[O4,Nat.pow_succ]
theorem Xa{f g}:∀{n:Nat},O4 f n=O4 g n->∀q<n,f q=g q
 |0,_,q,hq=>by omega
 |n+1,h,q,hq=>by
   simp only[O4]at h
   have h1:O4 f n=O4 g n/\f n=g n:=by
    grind
   rcases Nat.lt_or_ge q n with hq2|hq2
   ·exact Xa h1.1 q hq2
   grind
open Classical in
theorem Xn{x:Rx}(hw:wfR x=ť)(hf:fresh x<=6)(hz:cC x<=10000):∃b,qB x b:=by
 obtain⟨N,hN,hs⟩:=AM hw (vz _) (vz _) (sL x _);have hok:=Yu hs (by omega)
 obtain⟨b,g1,g2,g3,g4⟩:=aaJ hok hs.start (k:=λu=>O4 (λq=>decide (Rg N.edges [] q u)) N.n) (m:=256) (by omega) (λu _=>by
  have h1:=aa9 (λq=>decide (Rg N.edges [] q u)) N.n;have h2:2^N.n<=2^8:=Nat.pow_le_pow_right (by omega) (by have:=hs.n;omega)
  omega) (λq hq u v _ _ he hr=>by
  have:=Xa he q hq;simp_all)
 refine⟨b,N,hN,hok,by have:=hs.len;omega,g1,g2,g3,λw hww=>?_⟩
 rw[g4 w hww,hs.stop,hs.lang w]
theorem BD{s x}(h:(s,x)∈er):∃b,qB x b:=by
 simp only[er,zBa,zCf,zBd,or_false]at h;rcases h with⟨_,rfl⟩|⟨_,rfl⟩|⟨_,rfl⟩|⟨_,rfl⟩|⟨_,rfl⟩|⟨_,rfl⟩|⟨_,rfl⟩|⟨_,rfl⟩|⟨_,rfl⟩
 all_goals exact Xn (by decide) (by decide) (by decide)
def Yh(l:List (List Nat)):List (List Nat):=l.flatMap λw=>(List.range (w.length+1)).map λj=>w.take j
theorem VA{l u}:u∈Yh l↔∃w∈l,∃j,j<=w.length/\u=w.take j:=by
 simp only[Yh,List.mem_flatMap,zAb,List.mem_range];grind
theorem I8{n}:∀{l:List (List Nat)},(∀w∈l,w.length<=n)->(Yh l).length<=(n+1)*l.length
 |[],_=>by simp[Yh]
 |w::l,h=>by
   have ih:=I8 (l:=l) λw hw=>h w (by simp[hw])
   grind[Yh,zBj,zAg,List.length_range,zAe,zCh]
def j5(L:List (List Nat))(g:List Nat->Nat)(u:List Nat):Nat:=if u∈L then L.idxOf u else L.length+g u
theorem Xi{L g u n}(hg:g u<n):j5 L g u<L.length+n:=by
 grind[j5,zAd]
theorem Xj{L g u v}(h:j5 L g u=j5 L g v):u=v\/(u ∉ L/\v ∉ L/\g u=g v):=by
 unfold j5 at h;split at h<;>split at h
 ·rename_i h1 h2
  left;have e1:=zCa (zAd h1);simp_all
 ·grind
 ·grind
 simp_all
theorem IW{L g P}(h:∀u,P u->u∈L):sat (λu v=>j5 L g u=j5 L g v) P:=λu v _ _ he hp=>by
 rcases Xj he with rfl|⟨h1,_⟩
 ·exact hp
 simp_all
theorem Q7{L g P}(h:∀u v:List Nat,(∀c∈u,c<95)->(∀c∈v,c<95)->u ∉ L->v ∉ L->g u=g v->P u->P v):sat (λu v=>j5 L g u=j5 L g v) P:=λu v hu hv he hp=>by
 rcases Xj he with rfl|⟨h1,h2,h3⟩
 ·exact hp
 grind
variable {L:List (List Nat)}{g:List Nat->Nat}
theorem Pn:∀(s:Str)(pre:List Nat)(Y:Lg),ep s->(∀u,Y u->u=pre)->(∀j,1<=j->j<=s.length->pre++sw (s.take j)∈L)->Ek (λu v=>j5 L g u=j5 L g v) Y (s.map λc=>.set (ew (c.toNat-32)))
 |[],_,_,_,_,_=>by grind[Ek]
 |x::s,pre,Y,hs,hY,hL=>by
   have hx:=hs x (by simp)
   have hc:∀u,cat Y (den (.set (ew (x.toNat-32)))) u->u=pre++[x.toNat-32]:=by
    rintro u ⟨a,b,rfl,h1,h2⟩;grind[Uh]
   simp only[zAi,Ek,gY,true_and];refine .inr ⟨IW λu hu=>?_,Pn s (pre++[x.toNat-32]) _ (λc hc=>hs c (by simp[hc])) hc λj h1 h2=>?_⟩
   ·rw[hc u hu]
    have:=hL 1 (by omega) (by simp)
    simpa[sw]using this
   ·have:=hL (j+1) (by omega) (by simp;omega)
    simpa[sw]using this
theorem UV{s X pre}(hs:ep s)(hX:∀u,X u->u=pre)(hL:∀j,1<=j->j<=s.length->pre++sw (s.take j)∈L):gY (λu v=>j5 L g u=j5 L g v) X (ED s):=by
 have h:=Pn (g:=g) s pre X hs hX hL;unfold ED;generalize(s.map λc=>Rx.set (ew (c.toNat-32)))=l at h;rcases l with _|⟨p,_|⟨q,l⟩⟩
 ·grind[ng,gY]
 ·grind[ng,Ek]
 grind[ng,gY]
theorem FX{X l}(h:∀p∈l,gY (λu v=>j5 L g u=j5 L g v) X p):gY (λu v=>j5 L g u=j5 L g v) X (bw l):=by
 rcases l with _|⟨p,_|⟨q,l⟩⟩
 ·simp only[bw,Fo,gY]
 ·exact h p (by simp)
 grind[bw,gY,UW]
theorem ae7(c):(ew c).length=95:=by rw[ew,List.length_set,zAj]
theorem IB:∀s:Str,(pO (s.map λc=>.set (ew (c.toNat-32)))=ť)/\cT (s.map λc=>.set (ew (c.toNat-32)))=s.length/\dj (s.map λc=>.set (ew (c.toNat-32)))=0
 |[]=>by simp[pO,cT,dj]
 |x::s=>by
   obtain⟨h1,h2,h3⟩:=IB s;simp only[zAi,pO,cT,dj,wfR,cC,fresh,h1,h2,h3,zAe,ae7];grind
theorem abU{l}(h:pO l=ť):wfR (ng l)=ť/\cC (ng l)<=1+cT l/\fresh (ng l)<=l.length+dj l:=by
 rcases l with _|⟨p,_|⟨q,l⟩⟩
 ·simp[ng,wfR,pO,cC,fresh]
 ·simp_all[pO,zBb,ng,cT,dj,zAe]
 grind[ng,wfR,cC,fresh]
theorem acs(s):wfR (ED s)=ť/\cC (ED s)<=1+s.length/\fresh (ED s)<=s.length:=by
 grind[IB,abU,ED,zAg]
theorem nL{l}(h:pO l=ť):wfR (bw l)=ť/\cC (bw l)<=1+cT l/\fresh (bw l)<=dj l:=by
 rcases l with _|⟨p,_|⟨q,l⟩⟩
 ·grind[bw,Fo,wfR,cC,fresh,zAj,dj]
 ·simp_all[pO,zBb,bw,cT,dj]
 grind[bw,wfR,cC,fresh]
theorem oR(e)(n):∀ws:List Str,(∀w∈ws,w.length<=n)->pO (ws.map (oS e))=ť/\cT (ws.map (oS e))<=(n+e.length+1)*ws.length/\dj (ws.map (oS e))<=(n+e.length)*ws.length
 |[],_=>by simp[pO,cT,dj]
 |w::ws,h=>by
   obtain⟨h1,h2,h3⟩:=oR e n ws λw hw=>h w (by simp[hw])
   obtain⟨g1,g2,g3⟩:=acs (w++e);have hw:=h w (by simp)
   simp only[zBj]at g2 g3;simp only[zAi,pO,cT,dj,oS,g1,h1,zAe,zCh,Bool.true_and];grind
theorem Z7{ws}(hne:ws≠[])(hl:ws.length<=8)(hs:∀w∈ws,ep w/\w.length<=40):∃b,qB (bw (ws.map (oS []))) b:=by
 obtain⟨h1,h2,h3⟩:=oR [] 40 ws λw hw=>(hs w hw).2;obtain⟨g1,g2,g3⟩:=nL h1;have m1:(40+([]:Str).length+1)*ws.length<=41*8:=zAc (by simp) hl
 have m2:(40+([]:Str).length)*ws.length<=40*8:=zAc (by simp) hl
 obtain⟨K,hK⟩:∃K,K=Yh (ws.map sw):=⟨_,rfl⟩
 have hKl:K.length<=41*8:=by
  rw[hK]
  have:=I8 (n:=40) (l:=ws.map sw) (λw hw=>by
   obtain⟨v,hv,rfl⟩:=zAb.1 hw;grind[sw])
  grind
 have hin:∀w∈ws,∀j,j<=w.length->sw (w.take j)∈K:=λw hw j hj=>by
  rw[hK,VA];exact⟨sw w,zAb.2 ⟨w,hw,rfl⟩,j,by simpa[sw]using hj,by simp[sw,zCg]⟩
 refine Xo g1 (by omega) (by omega) (k:=j5 K λ_=>0) (m:=K.length+1) (by omega) (λu _=>Xi (by omega)) ?_ ?_ ?_
 ·refine IW λu hu=>?_
  subst hu;obtain⟨w,hw⟩:=List.exists_mem_of_ne_nil _ hne;have:=hin w hw 0 (by omega)
  simpa[sw]using this
 ·refine IW λu hu=>?_
  obtain⟨w,hw,rfl⟩:=(Xd λw hw=>(hs w hw).1).1 hu;have:=hin w hw w.length (zCi _);rwa[zCc]at this
 ·refine FX λp hp=>?_
  obtain⟨w,hw,rfl⟩:=zAb.1 hp;simp_all[oS,zBg,UV]
open Classical in
theorem adt{ws:List Str}(hl:ws.length<=8)(hs:∀w∈ws,ep w/\w.length<=16):∃b,qB (Q6 ws) b:=by
 have hsg:=λw hw=>(hs w hw).1;obtain⟨h1,h2,h3⟩:=oR [58] 16 ws λw hw=>(hs w hw).2;obtain⟨g1,g2,g3⟩:=nL h1;have m1:(16+([58]:Str).length+1)*ws.length<=18*8:=zAc (by simp) hl
 have m2:(16+([58]:Str).length)*ws.length<=17*8:=zAc (by simp) hl
 obtain⟨K,hK⟩:∃K,K=[]::Yh ((ws.map (·++[58])).map sw):=⟨_,rfl⟩
 have hKl:K.length<=1+18*8:=by
  rw[hK]
  have:=I8 (n:=17) (l:=(ws.map (·++[58])).map sw) (λw hw=>by
   obtain⟨v,hv,rfl⟩:=zAb.1 hw;obtain⟨v',hv',rfl⟩:=zAb.1 hv;grind[sw])
  grind
 have hin:∀w∈ws,∀j,j<=(w++[58]).length->sw ((w++[58]).take j)∈K:=λw hw j hj=>by
  rw[hK];refine List.mem_cons_of_mem _ (VA.2 ⟨sw (w++[58]),zAb.2 ⟨w++[58],zAb.2 ⟨w,hw,rfl⟩,rfl⟩,j,by simpa[sw]using hj,by simp[sw,zCg]⟩)
 have hfull:∀w∈ws,sw w++[26]∈K:=λw hw=>by
  have:=hin w hw _ (zCi _);rwa[zCc,IQ]at this
 have hnil:([]:List Nat)∈K:=by simp_all
 obtain⟨B,hB⟩:∃B:Lg,B=λu=>∃w∈ws,∃r:List Nat,u=sw w++[26]++r:=⟨_,rfl⟩;obtain⟨g,hg⟩:∃g:List Nat->Nat,g=λu=>if 26∈u then(if B u then 1 else 2)else 0:=⟨_,rfl⟩
 have hg3:∀u,g u<3:=λu=>by grind
 have gA:∀u v:List Nat,g u=g v->26 ∉ u->26 ∉ v:=λu v h hu hv=>by
  grind
 have B26:∀u,B u->26∈u:=λu hu=>by
  grind
 have gB:∀u v:List Nat,g u=g v->B u->B v:=λu v h hu=>by
  grind
 have noc:∀{u:List Nat},(∀c∈u,c<95/\c≠26)↔(∀c∈u,c<95)/\26 ∉ u:=by
  grind
 obtain⟨S,hS⟩:∃S,S=bw (ws.map (oS [58])):=⟨_,rfl⟩;have hSd:∀u,den S u↔∃w∈ws,u=sw w++[26]:=λu=>by rw[hS];exact Xe hsg
 have hx:Q6 ws=.alt [rx8,.seq [S,rx7]]:=by rw[Q6,hS];rfl
 have hw8:wfR rx8=true:=by decide
 have hw7:wfR rx7=true:=by decide
 have n63:¬(42:Nat)=63:=by omega
 refine Xo (by rw[hx];simp only[wfR,pO,hw8,hw7,hS,g1,zBb]) (by rw[hx,rx8,rx7];simp only[fresh,dj,zAe,zCe,n63,if_false,if_true,hS];omega) (by grind[rx8,rx7,cC,cT])
  (k:=j5 K g) (m:=K.length+3) (by omega) (λu _=>Xi (hg3 u)) ?_ ?_ ?_
 ·exact IW λu hu=>by subst hu;exact hnil
 ·refine Q7 λu v hu hv _ _ he hd=>?_
  rw[aba hsg]at hd⊢;rcases hd with hd|⟨w,hw,r,rfl,hr⟩
  ·grind
  ·have:B v:=gB _ v he (by grind)
   grind
 ·rw[hx]
  simp only[gY,Q8,and_true];refine⟨?_,?_⟩
  ·rw[rx8]
   simp only[gY,n63,if_false,if_true,and_true];refine Q7 λu v hu hv _ _ he hd=>?_;obtain⟨a,b,rfl,rfl,hb⟩:=hd;rw[List.nil_append]at he;refine⟨[],v,rfl,rfl,?_⟩;rw[BV]at hb⊢;have h26:26 ∉ b:=λhc=>(Jj.1 (hb 26 hc)).2 rfl;grind[Jj]
  ·simp only[Ek,List.cons_ne_nil,reduceCtorEq,false_or,true_or,and_true]
   refine⟨?_,?_,?_⟩
   ·rw[hS]
    refine FX λp hp=>?_;obtain⟨w,hw,rfl⟩:=zAb.1 hp;exact UV (pre:=[]) (Eg (hsg w hw)) (λu hu=>hu) λj _ hj=>by grind
   ·refine IW λu hu=>?_
    obtain⟨a,b,rfl,rfl,hb⟩:=hu;grind
   ·rw[rx7]
    simp only[gY,n63,if_false,if_true,and_true];refine Q7 λu v hu hv _ _ he hd=>?_
    have hBd:∀{u:List Nat},(∀c∈u,c<95)->(cat (cat (λu=>u=[]) (den S)) (Star (den (.set adw))) u↔B u):=by
     intro u hu;rw[hB];constructor
     ·rintro⟨a,b,rfl,⟨a',c,rfl,rfl,hc⟩,hb⟩
      grind
     ·rintro⟨w,hw,r,rfl⟩
      exact⟨sw w++[26],r,rfl,⟨[],_,rfl,rfl,(hSd _).2 ⟨w,hw,rfl⟩⟩,BV.2 λc hc=>LZ.2 (hu c (by simp[hc]))⟩
    grind
end Go.Abs
end
section
set_option maxHeartbeats 2000000
set_option maxRecDepth 100000
namespace Go.Abs
open Go.Proofs Go.Aut
attribute [-simp] getElem?_pos zBc zBi cl nt
inductive GoodC:F.Constraint->Rx->Prop
 |any:GoodC ⟨1,[],[]⟩ rx7
 |enum {ws:List Str}:ws≠[]->F.words ws false=ť->ws.length<=4->GoodC ⟨2,ws,[]⟩ (bw (ws.map (oS [])))
 |scheme {ws:List Str}:F.words ws ť=ť->ws.length<=4->GoodC ⟨3,ws,[]⟩ (Q6 ws)
 |mat {s:Str} {x:Rx}:(s,x)∈er->s∈F.pool12->GoodC ⟨4,[],s⟩ x
theorem F3(sch):∀(l out:List Str),(out=[]\/F.words out sch=ť)->F.pickW sch out l=[]\/F.words (F.pickW sch out l) sch=ť
 |[],out,h=>by grind[F.pickW]
 |w::l,out,h=>by
   simp only[F.pickW];refine F3 sch l _ ?_;split
   ·exact .inr ‹_›
   ·exact h
theorem abu(sch):F.words [] sch=true:=by simp[F.words,F.wordsGo]
theorem Gr(c):∃x,GoodC (F.good12 c) x:=by
 unfold F.good12;obtain⟨h1,h2⟩:=F.kind12_range c.kind;generalize F.kind12 c.kind=k at *;simp only;split
 ·have hlt:F.sumB c.regex%7<7:=Nat.mod_lt _ (by omega)
  generalize F.sumB c.regex%7=i at *;have:i=0\/i=1\/i=2\/i=3\/i=4\/i=5\/i=6:=by omega
  rcases this with rfl|rfl|rfl|rfl|rfl|rfl|rfl
  ·exact⟨rx0,.mat (by simp[F.pool12,er]) (by simp[F.pool12])⟩
  ·exact⟨rx1,.mat (by simp[F.pool12,er]) (by simp[F.pool12])⟩
  ·exact⟨rx2,.mat (by simp[F.pool12,er]) (by simp[F.pool12])⟩
  ·exact⟨rx3,.mat (by simp[F.pool12,er]) (by simp[F.pool12])⟩
  ·exact⟨rx4,.mat (by simp[F.pool12,er]) (by simp[F.pool12])⟩
  ·exact⟨rx5,.mat (by simp[F.pool12,er]) (by simp[F.pool12])⟩
  ·exact⟨rx6,.mat (by simp[F.pool12,er]) (by simp[F.pool12])⟩
 ·have hl:=F.pickW_len (decide (k=3)) (c.words.take 4) []
  have hw:=F3 (decide (k=3)) (c.words.take 4) [] (.inl rfl);simp at hl;have:k=1\/k=2\/k=3:=by omega
  rcases this with rfl|rfl|rfl
  ·exact⟨rx7,by simpa using GoodC.any⟩
  ·simp only[show(decide ((2:Int)=3))=false by decide]at hl hw
   simp only[show ¬((2:Int)=1) by omega,if_false,true_and,show(decide ((2:Int)=3))=false by decide]
   generalize F.pickW false [] (c.words.take 4)=ws at *;split
   ·exact⟨_,.enum (by simp) (by decide) (by simp)⟩
   ·rename_i hne
    rcases hw with hw|hw
    ·exact absurd hw hne
    ·exact⟨_,.enum hne hw (by omega)⟩
  ·simp only[show(decide ((3:Int)=3))=ť by decide]at hl hw
   simp only[show ¬((3:Int)=1) by omega,show ¬((3:Int)=2) by omega,if_false,false_and,show(decide ((3:Int)=3))=ť by decide]
   simp only[decide_true]at hl hw⊢;rcases hw with hw|hw
   ·rw[hw];exact⟨_,.scheme (abu ť) (by simp)⟩
   ·exact⟨_,.scheme hw (by omega)⟩
theorem vj{sch}:∀{l pre:List Str},F.wordsGo sch pre l=ť->∀w∈l,F.wordOK sch w=ť
 |[],_,_,w,hw=>by cases hw
 |x::l,pre,h,w,hw=>by
   simp only[F.wordsGo,zAf]at h;rcases zBa.1 hw with rfl|hw
   ·exact h.1
   ·exact vj h.2.2 w hw
theorem oh{ws:List Str}(h:F.words ws false=ť):∀w∈ws,ep w/\w.length<=40:=λw hw=>by
 simp only[F.words,zAf]at h;have:=vj h.1 w hw;simp only[F.wordOK,Bool.false_eq_true,if_false,zAf,decide_eq_true_eq,zCd]at this;refine⟨λc hc=>?_,this.2⟩;grind[F.sign]
theorem gE{ws:List Str}(h:F.words ws ť=ť):∀w∈ws,ep w/\w.length<=16/\∀c∈w,97<=c.toNat/\c.toNat<=122:=λw hw=>by
 simp only[F.words,zAf]at h;have:=vj h.1 w hw;simp only[F.wordOK,if_true,F.scheme,zAf,decide_eq_true_eq,zCd]at this
 have hc:∀c∈w,97<=c.toNat/\c.toNat<=122:=λc hc=>by
  grind[F.small]
 exact⟨λc h=>by have:=hc c h;omega,this.2.2,hc⟩
theorem GoodC.aut{c x}(h:GoodC c x):∃b,qB x b:=by
 cases h with
 |any=>exact BD (s:=[46,42]) (by simp[er])
 |enum h1 h2 h3=>exact Z7 h1 (by omega) (oh h2)
 |scheme h2 h3=>exact adt (by omega) λw hw=>⟨(gE h2 w hw).1,(gE h2 w hw).2.1⟩
 |mat h1 h2=>exact BD h1
theorem GoodC.sizes{c x}(h:GoodC c x):wfR x=ť/\cC x<=2000/\fresh x<=2000:=by
 have pool:∀{s:Str}{x:Rx},(s,x)∈er->wfR x=ť/\cC x<=2000/\fresh x<=2000:=by
  intro s x h;simp only[er,zBa,zCf,zBd,or_false]at h;rcases h with⟨_,rfl⟩|⟨_,rfl⟩|⟨_,rfl⟩|⟨_,rfl⟩|⟨_,rfl⟩|⟨_,rfl⟩|⟨_,rfl⟩|⟨_,rfl⟩|⟨_,rfl⟩
  all_goals decide
 cases h with
 |any=>exact pool (s:=[46,42]) (by simp[er])
 | @enum ws h1 h2 h3=>
   obtain⟨h1,h2,h3⟩:=oR [] 40 ws λw hw=>(oh h2 w hw).2;obtain⟨g1,g2,g3⟩:=nL h1;grind
 | @scheme ws h2 h3=>
   obtain⟨h1,h2,h3⟩:=oR [58] 16 ws λw hw=>(gE h2 w hw).2.1;obtain⟨g1,g2,g3⟩:=nL h1;have m1:(16+([58]:Str).length+1)*ws.length<=18*4:=zAc (by simp) ‹_›
   have m2:(16+([58]:Str).length)*ws.length<=17*4:=zAc (by simp) ‹_›
   have hx:Q6 ws=.alt [rx8,.seq [bw (ws.map (oS [58])),rx7]]:=rfl;have hw8:wfR rx8=true:=by decide
   have hw7:wfR rx7=true:=by decide
   have n63:¬(42:Nat)=63:=by omega
   rw[hx];refine⟨by simp_all[wfR,pO,zBb],by grind[rx8,rx7,cC,cT],by rw[rx8,rx7];simp only[fresh,dj,zAe,zCe,n63,if_false,if_true];omega⟩
 |mat h1 h2=>exact pool h1
theorem WX{x b}(hb:qB x b)(hw:wfR x=ť)(hz:cC x<=2000)(hf:fresh x<=2000):
 ∃N,Fn Tryz.prog dE [rxP x] (.strct (Net.c N))/\Fn Tryz.prog Vv [.strct (Net.c N)] (.tup [.strct (Aut.c b),.int .i64 0]):=by
 obtain⟨N,h1,h2,h3,h4,_⟩:=hb;exact⟨N,ajv x N hw h1 hz hf,af1 h2 h3 h4⟩
theorem Ld{s x}(h:(s,x)∈er)(hs:s∈F.pool12):Fn Tryz.prog JA [.str s] (.bool ť):=by
 obtain⟨g1,g2,g3⟩:=(GoodC.mat h hs).sizes;obtain⟨b,hb⟩:=BD h;obtain⟨N,k1,k2⟩:=WX hb g1 g2 g3;refine yoA J8 ?_;obtain⟨C,hC⟩:∃C,C=Net.c N:=⟨_,rfl⟩;obtain⟨A,hA⟩:∃A,A=Aut.c b:=⟨_,rfl⟩;have hCp:purs [] C=ś C:=by simp_all
 have hAp:purs [] A=ś A:=by simp_all[purs,pur,Aut.c]
 have hCv:ax C=[]:=by simp_all
 rw[<-hC]at k1 k2;rw[<-hA]at k2;simp(disch:=omega) [-zAa];refine ae (TZ h) (by simp) λ_=>?_
 simp(disch:=omega) [-zAa];refine ae k1 (by simp) λ_=>?_
 simp(disch:=omega) [-zAa,hCp];refine ae k2 (by simp[hCv]) λ_=>?_
 simp
theorem ZA{c x}(h:GoodC c x):Fn Tryz.prog Yx [c.v] (.int .i64 0):=by
 refine yoA YR ?_;cases h with
 |any=>simp
 | @enum ws h1 h2 h3=>
   have hp:0<ws.length:=List.length_pos_iff.2 h1;simp(disch:=omega) [-zAa];refine aa (Dj false zj (λs=>by grind[OY,F.wordOK]) ws h2) rfl λ_=>?_
   simp_all
 | @scheme ws h2 h3=>
   simp(disch:=omega) [-zAa];refine aa (Dj ť ue (λs=>by grind[H9,F.wordOK]) ws h2) rfl λ_=>?_
   simp
 |mat h1 h2=>
   simp(disch:=omega) [-zAa];refine aa (Ld h1 h2) rfl λ_=>?_;simp
end Go.Abs
end
section
set_option maxHeartbeats 4000000
set_option maxRecDepth 100000
namespace Go.Abs
open Go.Proofs Go.Aut
attribute [-simp] getElem?_pos zBc zBi cl nt
theorem GoodC.maker{c x}(h:GoodC c x):∃fk,lU (.int .i64 c.kind) s9=ś (.fn (.func fk) [] [])/\Fn Tryz.prog fk [c.v] (rxP x):=by
 cases h with
 |any=>exact⟨mF,by simp[s9,lU,eqK,pm,eqC],Le _ (by simp) (by simp[aF,ax]) rfl⟩
 | @enum ws h1 h2 h3=>exact⟨kS,by simp[s9,lU,eqK,pm,eqC],WZ 2 ws [] (by omega) λw hw=>by have:=oh h2 w hw;exact⟨this.1,by omega⟩⟩
 | @scheme ws h2 h3=>exact⟨iM,by simp[s9,lU,eqK,pm,eqC],OX 3 ws [] (by omega) λw hw=>by have:=gE h2 w hw;grind⟩
 |mat h1 h2=>exact⟨jC,by simp[s9,lU,eqK,pm,eqC],T5 4 [] _ h1⟩
theorem xb{c x}(h:GoodC c x){b}(hb:qB x b):Fn Tryz.prog Gd [c.v] (.strct (Aut.c b)):=by
 obtain⟨fk,hm,hf⟩:=h.maker;obtain⟨g1,g2,g3⟩:=h.sizes;obtain⟨N,k1,k2⟩:=WX hb g1 g2 g3;have hmay:=ZA h;refine Fn.of_imageE mixed V4.1 V4.2 rfl λho=>?_;unfold GV;simp only[oks,ok,and_true]at ho;clear ho h hb g1 g2 g3;obtain⟨C,hC⟩:∃C,C=Net.c N:=⟨_,rfl⟩;obtain⟨A,hA⟩:∃A,A=Aut.c b:=⟨_,rfl⟩;have hCp:∀h,purs h C=ś C:=λh=>by simp_all
 have hAp:∀h,purs h A=ś A:=λh=>by simp_all[purs,pur,Aut.c]
 have hCv:ax C=[]:=by simp_all
 have hAv:ax A=[]:=by simp_all[aF,ax,Aut.c]
 have hAr:∀m,fq m A=A:=λm=>by simp_all[ren,fq,Aut.c]
 have hAl:A.length=2:=by rw[hA];rfl
 have hCl:C.length=4:=by rw[hC];rfl
 rw[<-hC]at k1 k2;rw[<-hA]at k2⊢;have e2:List.take 2 A=A:=List.take_of_length_le (by omega)
 have e3:List.drop 2 A=[]:=List.drop_of_length_le (by omega)
 clear hC hA;obtain⟨kd,ws,rx⟩:=c;simp only at hm;simp at hf hmay;simp(disch:=omega) [-zAa];refine aa hmay rfl λ_=>?_;simp(disch:=omega) [-zAa];refine cd ⟨[(2,.ptr 0 0),(3,.ptr 1 0)],[ś (.box [.nil 1,.nil 1]),ś (.box A)]⟩ (λF hF=>?_) ?_
 ·have hF':=hF
  try simp at hF
  have hM:=afP
  repeat' (first
   |exact hF
   |refine QU.mk ?_ ?_
   |refine iI [] 0 [] (by simp) (by simp) (by simp) (by simp) hM (by simp) ?_
   |refine az hf (by simp) ?_
   |refine az k1 (by simp[hCp]) ?_
   |refine az k2 (by simp[hCv]) ?_
   |(simp(disch:=omega) [-zAa,hm,hCp,hAp,hCv,hAv,hAr,hAl,hCl,e2,e3]))
 simp_all
end Go.Abs
end
