/- The states that words of one length reach; the shortest word that is taken. No condition. -/
import Derived.Test.YtbekkicfbnaaaaaGreatDoorVTh6
import Derived.Test.YtbekkicfbnaaaaaGreatDoorVTh14
set_option linter.all false open List renaming reduceReplicate→zAa,map_map→zAb,getElem?_eq_getElem→zAd,mem_of_mem_take→zAf,map_cons→zAg,getElem?_map→zAi,foldl_append→zAj,mem_map→zBc
open Bool renaming and_eq_true→zAc
open UInt8 renaming ofNat→zAe
open Option renaming not_isSome→zAh,getD_some→zBa
open List.cons renaming injEq→zBb
open Nat renaming le_refl→zBd
open Option.some renaming injEq→zBe open Option renaming some→ś open Bool renaming true→ť
section
namespace Go.Aut
theorem QW{a:Aut}(ha:a.ok):∀(w:List Nat){p:Nat},p<a.n->(∀c∈w,c<95)->w.foldl a.δ p<a.n
 |[],_,hp,_=>hp
 |c::w,_,hp,h=>QW ha w (ha.lt hp (h c (by simp))) λc hc=>h c (by simp[hc])
end Go.Aut
end
section
set_option maxHeartbeats 1000000
set_option maxRecDepth 100000
namespace Go.Abs
open Go.Proofs Go.Aut
attribute [-simp] getElem?_pos zAh zAb
theorem kG(w):(bK w).length=w.length:=by simp[bK]
theorem Q4{c}(h:c<95):sgn (zAe (32+c))=ť/\(zAe (32+c)).toNat=32+c:=by
 have:(zAe (32+c)).toNat=32+c:=by grind[UInt8.toNat_ofNat']
 refine⟨?_,this⟩;simp only[sgn,this,zAc,decide_eq_true_eq];omega
theorem IC:∀(u v:List Nat),(∀c∈u,c<95)->(∀c∈v,c<95)->u.length=v.length->Op.bytesLess (bK u) (bK v)=ť->yG u v
 |[],[],_,_,_,h=>by grind[bK,Op.bytesLess]
 |[],_::_,_,_,hl,_=>by simp at hl
 |_::_,[],_,_,hl,_=>by simp at hl
 |a::u,b::v,hu,hv,hl,h=>by
   have ha:=hu a (by simp)
   have hb:=hv b (by simp)
   have h1:=(Q4 ha).2;have h2:=(Q4 hb).2;simp only[bK,zAg,Op.bytesLess,Bool.or_eq_true,zAc,decide_eq_true_eq,beq_iff_eq,UInt8.lt_iff_toNat_lt,h1,h2]at h;rcases h with h|⟨h,h3⟩
   ·exact .inl (by omega)
   ·have:a=b:=by
     simp_all
    exact .inr ⟨this,IC u v (λc hc=>hu c (by simp[hc])) (λc hc=>hv c (by simp[hc])) (by simpa using hl) h3⟩
theorem kM{w}(h:∀c∈w,c<95):ep (bK w):=λb hb=>by
 simp only[bK,zBc]at hb;obtain⟨c,hc,rfl⟩:=hb;grind[Q4]
theorem BS:∀{w:List Nat},(∀c∈w,c<95)->sw (bK w)=w
 |[],_=>rfl
 |c::w,h=>by
   have h1:=(Q4 (h c (by simp))).2
   have ih:=BS (w:=w) λc hc=>h c (by simp[hc])
   simp only[sw,bK,zAg,zBb]at ih⊢;exact⟨by rw[h1];omega,by simpa[zAb]using ih⟩
theorem ru:∀{s:Str},ep s->bK (sw s)=s
 |[],_=>rfl
 |b::s,h=>by
   have hb:=h b (by simp)
   have ih:=ru (s:=s) λc hc=>h c (by simp[hc])
   have e:zAe (32+(b.toNat-32))=b:=by rw[show 32+(b.toNat-32)=b.toNat by omega,UInt8.ofNat_toNat]
   simp only[sw,bK,zAg,zBb]at ih⊢;exact⟨e,by simpa[zAb]using ih⟩
theorem agP{a:Aut}:∀(w:List Nat)(q:Nat),(∀c∈w,c<95)->a.L q w=a.F (w.foldl a.δ q)
 |[],q,_=>rfl
 |c::w,q,h=>by
   have ih:=agP (a:=a) w (a.δ q c) λc hc=>h c (by simp[hc])
   simp_all[Aut.L,wh,lang,if_pos,List.foldl_cons]
def FB(s t:Str):Prop:=s.length<t.length\/(s.length=t.length/\Op.bytesLess s t=ť)
theorem QN{s w}(hs:ep s)(hw:∀c∈w,c<95)(h:FB s (bK w)):wlt (sw s) w:=by
 have e:=ru hs;have hl:(sw s).length=s.length:=by simp[sw]
 rcases h with h|⟨h,h2⟩
 ·exact .inl (by rw[kG]at h;omega)
 ·rw[kG]at h
  refine .inr ⟨by omega,IC (sw s) w (pT hs) hw (by omega) (by rw[e];exact h2)⟩
theorem qB.acc{c x b}(h:GoodC c x)(hb:qB x b)(s:Str):F.allows12 c s=ť↔ep s/\b.F ((sw s).foldl b.δ 0)=true:=by
 rw[tS h];refine and_congr_right λhs=>?_;obtain⟨_,_,_,_,_,_,_,hL⟩:=hb;grind[pT,agP]
theorem qB.ok{x b}(hb:qB x b):b.ok/\b.n<=500:=by
 obtain⟨_,_,_,_,_,hok,hn,_⟩:=hb;exact⟨hok,hn⟩
theorem D0 {x y} (h:x=ť↔y=ť):x=y:=by
 simp_all
theorem aaF{a b}(ha:a.ok)(hb:b.ok)(op):∃r,gN (d4 a b) (kY a b op) (a.n*b.n+1) 0 [(0,0)] [[]]=ś r/\abo (d4 a b) (0,0) (kY a b op) r:=by
 have hD:∀(q:Nat×Nat)(c:Nat),(q.1<a.n/\q.2<b.n)->c<95->((d4 a b q c).1<a.n/\(d4 a b q c).2<b.n):=λq c hq hc=>⟨ha.lt hq.1 hc,hb.lt hq.2 hc⟩;have h0:LInv (d4 a b) (0,0) (λq=>q.1<a.n/\q.2<b.n) 0 0 [(0,0)] [[]]:=LInv.begin ⟨ha.pos,hb.pos⟩;obtain⟨r,hr⟩:=Cz hD (λl h1 h2=>lQ h2 h1) (good:=kY a b op) (a.n*b.n+1) 0 [(0,0)] [[]] h0 (by simp) (by omega)
 grind[Cy]
end Go.Abs
end
section
set_option maxHeartbeats 2000000
set_option maxRecDepth 100000
namespace Go.Abs
open Go.Proofs Go.Aut
attribute [-simp] getElem?_pos zAh zAb
theorem air{a}(ha:a.ok):(vV a).ok:=⟨ha.pos,by simp[vV,Aut.n];exact ha.fin,ha.rows⟩
theorem akT{a}:(vV a).n=a.n:=rfl
theorem akU{a q}(ha:a.ok)(hq:q<a.n):(vV a).F q=!a.F q:=by
 obtain⟨f,hf⟩:=av (l:=a.final) (k:=q) (by rw[ha.fin];exact hq)
 have h1:a.F q=f:=by show fin a.final q=f;grind[fin]
 have h2:(vV a).F q=!f:=by show fin (a.final.map (!·)) q=!f;grind[fin]
 rw[h1,h2]
def flip(f:Bool)(a:Aut):Aut:=if f then a else vV a
theorem iG{f a}(ha:a.ok):(flip f a).ok:=by grind[flip,air]
theorem wT{f a}:(flip f a).n=a.n:=by grind[flip,akT]
theorem TE{f a}:(flip f a).δ=a.δ:=by cases f<;>rfl
theorem afW{f a q}(ha:a.ok)(hq:q<a.n):(flip f a).F q=ť↔a.F q=f:=by
 grind[flip,akU]
def FF(c d:F.Constraint)(f1 f2:Bool):Option (List Nat)->Prop
 |none=>∀s:Str,ep s->F.allows12 c s=f1->F.allows12 d s=f2->False
 |some w=>(∀u∈w,u<95)/\F.allows12 c (bK w)=f1/\F.allows12 d (bK w)=f2/\∀s:Str,ep s->F.allows12 c s=f1->F.allows12 d s=f2->¬FB s (bK w)
theorem aag{c x a}(hc:GoodC c x)(ha:qB x a){w}(hw:∀u∈w,u<95)(f):(flip f a).F (w.foldl a.δ 0)=ť↔F.allows12 c (bK w)=f:=by
 rw[afW ha.ok.1 (QW ha.ok.1 w ha.ok.1.pos hw)];have h:=qB.acc hc ha (bK w);rw[BS hw]at h;have h2:=kM hw;simp_all
theorem UG{K:Type}{step}{D:K->Prop}(hD:∀q c,D q->c<95->D (step q c)):∀(w:List Nat){p:K},D p->(∀c∈w,c<95)->D (w.foldl step p)
 |[],p,hp,_=>hp
 |c::w,p,hp,h=>UG hD w (hD p c hp (h c (by simp))) λx hx=>h x (by simp[hx])
theorem XW{K:Type}{step}{D:K->Prop}(hD:∀q c,D q->c<95->D (step q c)){N}(hN:∀l:List K,(∀x∈l,D x)->l.Nodup->l.length<=N){p}(hp:D p):∀(m:Nat)(w:List Nat),w.length<=m->(∀c∈w,c<95)->∃v:List Nat,v.length<N+1/\v.length<=w.length/\(∀c∈v,c<95)/\v.foldl step p=w.foldl step p
 |m,w,hm,hw=>by
   rcases Nat.lt_or_ge w.length (N+1)with h|h
   ·grind
   ·obtain⟨P,hP⟩:∃P,P=(List.range (w.length+1)).map λk=>(w.take k).foldl step p:=⟨_,rfl⟩
    have hPl:P.length=w.length+1:=by simp[hP]
    have hPg:∀k,k<w.length+1->P[k]?=ś ((w.take k).foldl step p):=λk hk=>by grind
    have hnd:¬P.Nodup:=λhnd=>by
     have:=hN P (λx hx=>by
      rw[hP,zBc]at hx;obtain⟨k,_,rfl⟩:=hx;exact UG hD _ hp λc hc=>hw c (zAf hc)) hnd
     omega
    have hex:∃i j,i<j/\j<w.length+1/\(w.take i).foldl step p=(w.take j).foldl step p:=by
     apply Classical.byContradiction;intro hno;apply hnd;simp_all[List.nodup_iff_pairwise_ne,List.pairwise_iff_getElem,zAd,zBe]
    obtain⟨i,j,hij,hj,e⟩:=hex;have hlen:(w.take i++w.drop j).length<w.length:=by simp;omega
    cases m with
    |zero=>omega
    |succ m=>
      obtain⟨v,h1,h2,h3,h4⟩:=XW hD hN hp m (w.take i++w.drop j) (by omega) λc hc=>by
       grind
      grind[List.take_append_drop]
theorem Iv{c d x y a b}(hc:GoodC c x)(hd:GoodC d y)(ha:qB x a)(hb:qB y b)(f1 f2):
 ∃r,Fn Tryz.prog sY [.strct (Aut.c (flip f1 a)),.strct (Aut.c (flip f2 b))] (yA r)/\FF c d f1 f2 r/\∀w,r=ś w->w.length<250001:=by
 have h1:=ha.ok;have h2:=hb.ok;obtain⟨r,hr,hI⟩:=aaF (iG (f:=f1) h1.1) (iG (f:=f2) h2.1) λx y=>x&&y;have hfn:=Dk (iG (f:=f1) h1.1) (iG (f:=f2) h2.1) (by rw[wT];exact h1.2) (by rw[wT];exact h2.2) r hr
 have key:∀w:List Nat,(∀u∈w,u<95)->(kY (flip f1 a) (flip f2 b) (λx y=>x&&y) (w.foldl (d4 (flip f1 a) (flip f2 b)) (0,0))=ť↔(F.allows12 c (bK w)=f1/\F.allows12 d (bK w)=f2)):=λw hw=>by
  rw[IX,kY,TE,TE,zAc,aag hc ha hw,aag hd hb hw]
 refine⟨r,hfn,?_,λw hw=>?_⟩
 ·cases r with
  |none=>
    intro s hs k1 k2;have h3:=hI (sw s) (pT hs);grind[sw,pT,ru]
  |some w=>
    obtain⟨k1,k2⟩:=(key w hI.1).1 hI.2.1;refine⟨hI.1,k1,k2,λs hs g1 g2 hah=>?_⟩;exact hI.2.2 (sw s) (pT hs) ((key (sw s) (pT hs)).2 (by grind[ru])) (QN hs hI.1 hah)
 ·subst hw
  have hab:a.n*b.n<=250000:=Nat.le_trans (Nat.mul_le_mul h1.2 h2.2) (by decide)
  have e1:=iG (f:=f1) h1.1;have e2:=iG (f:=f2) h2.1;have hn1:(flip f1 a).n=a.n:=wT;have hn2:(flip f2 b).n=b.n:=wT;obtain⟨v,g1,g2,g3,g4⟩:=XW (step:=d4 (flip f1 a) (flip f2 b)) (D:=λq=>q.1<(flip f1 a).n/\q.2<(flip f2 b).n) (λq c hq hc=>⟨e1.lt hq.1 hc,e2.lt hq.2 hc⟩) (N:=(flip f1 a).n*(flip f2 b).n) (λl k1 k2=>lQ k2 k1) (p:=(0,0)) ⟨e1.pos,e2.pos⟩ w.length w (zBd _) hI.1;have h5:=hI.2.2 v g3 (by rw[g4];exact hI.2.1)
  have h6:¬v.length<w.length:=λh=>h5 (.inl h);grind
def cg:Option (List Nat)->Str
 |none=>[]
 |some w=>43::bK w
theorem lK(r)(h:∀w,r=ś w->w.length<250001):∃(w:Str)(o:Bool),yA r=.tup [.str w,.bool o]/\cg r=(if o then 43::w else[])/\w.length<250001:=by
 cases r with
 |none=>exact⟨[],false,rfl,rfl,by simp⟩
 |some w=>exact⟨bK w,ť,rfl,rfl,by simp_all[kG]⟩
def upS(k i:Nat)(s:Str):V:=.str (if i<k then s else[])
theorem T6{c d x y}(hc:GoodC c x)(hd:GoodC d y):∃r0 r1 r2 r3,FF c d ť ť r0/\FF c d ť false r1/\FF c d false ť r2/\FF c d false false r3/\(∀r∈[r0,r1,r2,r3],∀w,r=ś w->w.length<250001)/\
 Fn Tryz.prog RQ [c.v,d.v] (.strct [.str (cg r0),.str (cg r1),.str (cg r2),.str (cg r3)]):=by
 obtain⟨a,ha⟩:=hc.aut;obtain⟨b,hb⟩:=hd.aut;obtain⟨r0,k0,c0,l0⟩:=Iv hc hd ha hb ť ť;obtain⟨r1,k1,c1,l1⟩:=Iv hc hd ha hb ť false;obtain⟨r2,k2,c2,l2⟩:=Iv hc hd ha hb false ť;obtain⟨r3,k3,c3,l3⟩:=Iv hc hd ha hb false false;refine⟨r0,r1,r2,r3,c0,c1,c2,c3,λr hr=>?_,?_⟩
 ·grind
 have h1:=xb hc ha;have h2:=xb hd hb;have n1:=yp ha.ok.1 ha.ok.2;have n2:=yp hb.ok.1 hb.ok.2;simp only[flip,if_true,Bool.false_eq_true,if_false]at k0 k1 k2 k3;clear c0 c1 c2 c3 ha hb hc hd;have e1:(vV a).next=a.next:=rfl;have e2:(vV b).next=b.next:=rfl;simp only[Aut.c,fN,TG,e1,e2]at h1 h2 n1 n2 k0 k1 k2 k3;obtain⟨A,hA⟩:∃A,A=a.next.map di:=⟨_,rfl⟩;obtain⟨A',hA'⟩:∃A,A=a.final.map V.bool:=⟨_,rfl⟩;obtain⟨A2,hA2⟩:∃A,A=(vV a).final.map V.bool:=⟨_,rfl⟩;obtain⟨B,hB⟩:∃A,A=b.next.map di:=⟨_,rfl⟩;obtain⟨B',hB'⟩:∃A,A=b.final.map V.bool:=⟨_,rfl⟩;obtain⟨B2,hB2⟩:∃A,A=(vV b).final.map V.bool:=⟨_,rfl⟩;rw[<-hA,<-hA']at h1 n1;rw[<-hB,<-hB']at h2 n2;rw[<-hA2]at n1;rw[<-hB2]at n2;rw[<-hA,<-hA',<-hB,<-hB']at k0;rw[<-hA,<-hA',<-hB,<-hB2]at k1;rw[<-hA,<-hA2,<-hB,<-hB']at k2;rw[<-hA,<-hA2,<-hB,<-hB2]at k3;clear e1 e2 hA hA' hA2 hB hB' hB2;obtain⟨w0,o0,p0,q0,m0⟩:=lK r0 l0;obtain⟨w1,o1,p1,q1,m1⟩:=lK r1 l1;obtain⟨w2,o2,p2,q2,m2⟩:=lK r2 l2;obtain⟨w3,o3,p3,q3,m3⟩:=lK r3 l3;rw[p0]at k0;rw[p1]at k1;rw[p2]at k2;rw[p3]at k3;obtain⟨s0,hs0⟩:∃s,s=cg r0:=⟨_,rfl⟩;obtain⟨s1,hs1⟩:∃s,s=cg r1:=⟨_,rfl⟩;obtain⟨s2,hs2⟩:∃s,s=cg r2:=⟨_,rfl⟩;obtain⟨s3,hs3⟩:∃s,s=cg r3:=⟨_,rfl⟩;rw[<-hs0,<-hs1,<-hs2,<-hs3];rw[q0]at hs0;rw[q1]at hs1;rw[q2]at hs2;rw[q3]at hs3;clear p0 p1 p2 p3 q0 q1 q2 q3 l0 l1 l2 l3;refine yoA SK ?_;unfold DQ;obtain⟨kc,wc,rc⟩:=c;obtain⟨kd,wd,rd⟩:=d;simp at h1 h2;simp(disch:=omega) [-zAa];refine az h1 (by simp) ?_
 simp(disch:=omega) [-zAa];refine az h2 (by simp) ?_
 simp(disch:=omega) [-zAa];refine cd ⟨[(4,.ptr 0 0),(5,.ptr 1 0),(6,.ptr 2 0)],[ś (.box [.str [],.str [],.str [],.str []]),ś (.box [.seq 1 A,.seq 1 A']),ś (.box [.seq 1 B,.seq 1 B'])]⟩ (λF hF=>?_) ?_
 ·simp_all[QU.mk,zAa]
 simp(disch:=omega) [-zAa];refine az n1 (by simp) ?_
 simp(disch:=omega) [-zAa];refine az n2 (by simp) ?_
 simp(disch:=omega) [-zAa];refine cd ⟨[(4,.ptr 0 0),(5,.ptr 1 0),(6,.ptr 2 0),(7,.ptr 3 0),(8,.ptr 4 0)],[ś (.box [.str [],.str [],.str [],.str []]),ś (.box [.seq 1 A,.seq 1 A']),ś (.box [.seq 1 B,.seq 1 B']),ś (.box [.seq 1 A,.seq 1 A2]),ś (.box [.seq 1 B,.seq 1 B2])]⟩ (λF hF=>?_) ?_
 ·simp_all[QU.mk,zAa]
 simp(disch:=omega) [-zAa];clear h1 h2 n1 n2
 refine ah (λk:Nat=>⟨[(4,.ptr 0 0),(10,.ptr 1 0),(36,.strct [.seq 1 A,.seq 1 A',.seq 1 B,.seq 1 B',.seq 1 A,.seq 1 A',.seq 1 B,.seq 1 B2,.seq 1 A,.seq 1 A2,.seq 1 B,.seq 1 B',.seq 1 A,.seq 1 A2,.seq 1 B,.seq 1 B2]),(37,nV k)],
  [ś (.box [.str [],.str [],.str [],.str []]),ś (.box [upS k 0 s0,upS k 1 s1,upS k 2 s2,upS k 3 s3])]⟩) (λk=>k<=4) (λk=>4-k) [] _ 0 rfl (by simp[upS]) (by simp) ?_
 intro k hk N hN;have hkk:k=0\/k=1\/k=2\/k=3\/k=4:=by omega
 rcases hkk with rfl|rfl|rfl|rfl|rfl
 ·simp(disch:=omega) [-zAa,upS]
  refine aa k0 rfl λ_=>?_;cases o0 with
  |true=>
    simp(disch:=omega) [-zAa];exact hN.out _<|Nx.mk 1 (by simp[upS,hs0]) (by simp) (by simp)
  |false=>
    simp(disch:=omega) [-zAa];exact hN.out _<|Nx.mk 1 (by simp[upS,hs0]) (by simp) (by simp)
 ·simp(disch:=omega) [-zAa,upS]
  refine aa k1 rfl λ_=>?_;cases o1 with
  |true=>
    simp(disch:=omega) [-zAa];exact hN.out _<|Nx.mk 2 (by simp[upS,hs1]) (by simp) (by simp)
  |false=>
    simp(disch:=omega) [-zAa];exact hN.out _<|Nx.mk 2 (by simp[upS,hs1]) (by simp) (by simp)
 ·simp(disch:=omega) [-zAa,upS]
  refine aa k2 rfl λ_=>?_;cases o2 with
  |true=>
    simp(disch:=omega) [-zAa];exact hN.out _<|Nx.mk 3 (by simp[upS,hs2]) (by simp) (by simp)
  |false=>
    simp(disch:=omega) [-zAa];exact hN.out _<|Nx.mk 3 (by simp[upS,hs2]) (by simp) (by simp)
 ·simp(disch:=omega) [-zAa,upS]
  refine aa k3 rfl λ_=>?_;cases o3 with
  |true=>
    simp(disch:=omega) [-zAa];exact hN.out _<|Nx.mk 4 (by simp[upS,hs3]) (by simp) (by simp)
  |false=>
    simp(disch:=omega) [-zAa];exact hN.out _<|Nx.mk 4 (by simp[upS,hs3]) (by simp) (by simp)
 simp_all[zAa,upS]
end Go.Abs
end
