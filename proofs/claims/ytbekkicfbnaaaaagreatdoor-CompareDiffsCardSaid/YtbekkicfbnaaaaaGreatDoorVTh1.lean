/- Automata, plainly: walks that number what they meet, and what they tell. No condition. -/
import Derived.Test.YtbekkicfbnaaaaaGreatDoorVCodeD
set_option linter.all false open List renaming reduceReplicate→zAa,getElem?_eq_some_iff→zAb,mem_of_getElem?→zAc,getElem?_eq_getElem→zAd,replicate→zAe,getElem?_append_left→zAf,take_of_length_le→zAg,mem_iff_getElem?→zAh,replicate_succ→zBa,getElem?_eq_none→zBb,mem_cons→zBc,getElem?_append_right→zBd,length_nil→zBe,getElem?_map→zBf,map_cons→zBg,set_append_right→zBh,map_map→zBi,map_append→zBj,length_erase_of_mem→zCc,length_map→zCf,append_nil→zCg,take→zCh,range'→zCi,map_congr_left→zDa,all_eq_true→zDc,cons_append→zDd,all_cons→zDe,mem_map→zDg,all_map→zDh
open Nat renaming lt_or_ge→zAi,lt_trichotomy→zCa,zero_add→zCd
open Option.some renaming injEq→zAj
open Option renaming not_isSome→zCb,map_some→zCe
open Prod.mk renaming injEq→zCj
open Bool renaming and_eq_true→zDb
open Function renaming comp→zDf
open List.cons renaming injEq→zDi open Option renaming some→ś,none→ń open Bool renaming true→ť,false→ğ open Go.Proofs.Tryz renaming prog→ŷ
section
namespace Go.Aut
section
variable {K:Type}
def pos(e:K->K->Bool)(k:K):List K->Option Nat
 |[]=>ń
 |x::l=>if e x k=ť then ś 0 else(pos e k l).map (· +1)
def lj(e:K->K->Bool)(l:List K)(k:K):Nat:=(pos e k l).getD l.length
def c5(e:K->K->Bool)(l:List K)(k:K):List K:=if(pos e k l).isSome=ť then l else l++[k]
def aZ(e:K->K->Bool)(f:Nat->K):Nat->Nat->List K->List Nat×List K
 |0,_,l=>([],l)
 |m+1,c,l=>(lj e l (f c)::(aZ e f m (c+1) (c5 e l (f c))).1,(aZ e f m (c+1) (c5 e l (f c))).2)
def de(e:K->K->Bool)(step:K->Nat->K)(most:Nat):Nat->Nat->List K->List (List Nat)->Option (List K×List (List Nat))
 |0,_,_,_=>ń
 |f+1,i,l,rows=>match l[i]? with
   |none=>ś (l,rows)
   |some q=>if most<(aZ e (step q) 95 0 l).2.length then ń else de e step most f (i+1) (aZ e (step q) 95 0 l).2 (rows++[(aZ e (step q) 95 0 l).1])
def FN(e:K->K->Bool)(step:K->Nat->K)(start:K)(most:Nat):Option (List K×List (List Nat)):=de e step most (most+2) 0 [start] []
variable {e:K->K->Bool}
theorem vO{k:K}:∀{l:List K}{i:Nat},pos e k l=ś i->∃x,l[i]?=ś x/\e x k=ť
 |[],i,h=>by simp[pos]at h
 |y::l,i,h=>by
   simp only[pos]at h;split at h
   ·rename_i hy;cases h;exact⟨y,rfl,hy⟩
   ·cases hp:pos e k l with
    |none=>simp[hp]at h
    |some j=>simp[hp]at h;subst h;simpa using vO hp
theorem Cc{k}:∀{l:List K},pos e k l=ń->∀x∈l,e x k=ğ
 |[],_,x,hx=>by cases hx
 |y::l,h,x,hx=>by
   simp only[pos]at h;split at h
   ·cases h
   ·rename_i hy
    simp at h;rcases zBc.1 hx with rfl|hx
    ·simpa using hy
    ·exact Cc h x hx
theorem akF{k l i}(h:pos e k l=ś i):i<l.length:=by
 obtain⟨x,hx,_⟩:=vO h;exact(zAb.1 hx).1
theorem agF(l)(k):∃t,c5 e l k=l++t:=by
 unfold c5;split
 ·simp
 simp
theorem agE(he:∀a,e a a=ť)(l)(k):∃x,(c5 e l k)[lj e l k]?=ś x/\e x k=true:=by
 unfold c5 lj;cases hp:pos e k l with
 |none=>simp_all
 |some i=>simp_all[vO]
theorem xV{l k x}(h:x∈c5 e l k):x∈l\/x=k:=by
 grind[c5]
def mA(e:K->K->Bool)(l:List K):Prop:=∀(i j:Nat)(x y:K),i<j->l[i]?=ś x->l[j]?=ś y->e x y=ğ
theorem mA.add{l}(h:mA e l)(k):mA e (c5 e l k):=by
 unfold c5;split
 ·exact h
 ·rename_i hp
  have hp:pos e k l=none:=by simpa using hp
  intro i j x y hij hx hy;have hj:=(zAb.1 hy).1;simp at hj;rcases zAi j l.length with hjl|hjl
  ·rw[zAf hjl]at hy
   rw[zAf (by omega)]at hx
   exact h i j x y hij hx hy
  ·have:j=l.length:=by omega
   subst this;simp at hy;subst hy;rw[zAf hij]at hx;exact Cc hp x (zAc hx)
theorem mA.one(k):mA e [k]:=by
 intro i j x y hij hx hy;grind
theorem ae1(hs:∀a b,e a b=ť->e b a=ť)(ht:∀a b c,e a b=ť->e b c=ť->e a c=ť){l}(h:mA e l){i x k}(hx:l[i]?=ś x)(hk:e x k=ť):pos e k l=ś i:=by
 cases hp:pos e k l with
 |none=>have:=Cc hp x (zAc hx);simp[hk]at this
 |some j=>
   obtain⟨y,hy,hyk⟩:=vO hp;rcases zCa i j with hij|hij|hij
   ·have:=h i j x y hij hx hy;grind
   ·rw[hij]
   ·have:=h j i y x hij hy hx;grind
theorem yd(f):∀(m c:Nat)(l:List K),(aZ e f m c l).1.length=m
 |0,_,_=>rfl
 |m+1,c,l=>by simp[aZ,yd f m]
theorem rC(f):∀(m c:Nat)(l:List K),∃t,(aZ e f m c l).2=l++t
 |0,_,l=>⟨[],by simp[aZ]⟩
 |m+1,c,l=>by
   obtain⟨t,ht⟩:=agF (e:=e) l (f c);obtain⟨u,hu⟩:=rC f m (c+1) (c5 e l (f c));grind[aZ]
theorem yc(f):∀(m c:Nat)(l:List K)(x:K),x∈(aZ e f m c l).2->x∈l\/∃d,c<=d/\d<c+m/\x=f d
 |0,_,l,x,h=>.inl h
 |m+1,c,l,x,h=>by
   simp only[aZ]at h;rcases yc f m (c+1) _ x h with h|⟨d,h1,h2,h3⟩
   ·rcases xV h with h|h
    ·exact .inl h
    ·exact .inr ⟨c,by omega,by omega,h⟩
   ·exact .inr ⟨d,by omega,by omega,h3⟩
theorem n3(he:∀a,e a a=ť)(f):∀(m c:Nat)(l:List K)(d:Nat),d<m->∃k x,(aZ e f m c l).1[d]?=ś k/\(aZ e f m c l).2[k]?=ś x/\e x (f (c+d))=ť
 |0,_,_,_,h=>by omega
 |m+1,c,l,d,h=>by
   simp only[aZ];cases d with
   |zero=>
     obtain⟨x,hx,hxe⟩:=agE he l (f c);obtain⟨u,hu⟩:=rC (e:=e) f m (c+1) (c5 e l (f c));refine⟨_,x,rfl,?_,hxe⟩;grind
   |succ d=>
     obtain⟨k,x,h1,h2,h3⟩:=n3 he f m (c+1) (c5 e l (f c)) d (by omega)
     grind
theorem fZ(f):∀(m c:Nat)(l:List K),mA e l->mA e (aZ e f m c l).2
 |0,_,_,h=>h
 |m+1,c,l,h=>fZ f m (c+1) _ (h.add _)
structure WInv (e:K->K->Bool) (step:K->Nat->K) (D:K->Prop) (i:Nat) (l:List K) (rows:List (List Nat)):Prop where
 len:rows.length=i
 le:i<=l.length
 dom:∀x∈l,D x
 apart:mA e l
 row:∀j<i,∃q r,l[j]?=ś q/\rows[j]?=ś r/\r.length=95/\∀c<95,∃k x,r[c]?=ś k/\l[k]?=ś x/\e x (step q c)=ť
theorem WInv.next(he:∀a,e a a=ť){step D}(hD:∀q c,D q->c<95->D (step q c)){i l rows}(h:WInv e step D i l rows){q}(hq:l[i]?=ś q):
 WInv e step D (i+1) (aZ e (step q) 95 0 l).2 (rows++[(aZ e (step q) 95 0 l).1]):=by
 obtain⟨t,ht⟩:=rC (e:=e) (step q) 95 0 l;have hi:=(zAb.1 hq).1;refine⟨by simp[h.len],by rw[ht];simp;omega,?_,fZ _ _ _ _ h.apart,?_⟩
 ·intro x hx
  rcases yc _ _ _ _ _ hx with hx|⟨d,_,hd,rfl⟩
  ·exact h.dom x hx
  ·exact hD _ _ (h.dom q (zAc hq)) (by omega)
 ·intro j hj
  rcases zAi j i with hji|hji
  ·obtain⟨p,r,h1,h2,h3,h4⟩:=h.row j hji
   refine⟨p,r,by grind,by grind,h3,λc hc=>?_⟩
   grind
  ·have:j=i:=by omega
   subst this;refine⟨q,(aZ e (step q) 95 0 l).1,by grind,by simp[<-h.len],yd _ _ _ _,λc hc=>?_⟩
   simpa using n3 he (step q) 95 0 l c hc
theorem om(he:∀a,e a a=ť){step most D}(hD:∀q c,D q->c<95->D (step q c)):∀(f i:Nat)(l:List K)(rows:List (List Nat))(l':List K)(rows':List (List Nat)),
 WInv e step D i l rows->de e step most f i l rows=ś (l',rows')->WInv e step D l'.length l' rows'/\∃t,l'=l++t
 |0,_,_,_,_,_,_,h=>by simp[de]at h
 |f+1,i,l,rows,l',rows',hI,h=>by
   simp only[de]at h;cases hq:l[i]? with
   |none=>
     simp only[hq,zAj,zCj]at h;obtain⟨rfl,rfl⟩:=h;have:i=l.length:=by have:=List.getElem?_eq_none_iff.1 hq;have:=hI.le;omega
     simp_all
   |some q=>
     simp only[hq]at h;split at h
     ·cases h
     ·obtain⟨h1,t,h2⟩:=om he hD f _ _ _ _ _ (hI.next he hD hq) h
      obtain⟨u,hu⟩:=rC (e:=e) (step q) 95 0 l;simp_all
section
variable {K':Type}[DecidableEq K']{φ:K->K'}{D:K->Prop}
def eqB[DecidableEq K'](a b:K'):Bool:=decide (a=b)
theorem Rc(hφ:∀a b,D a->D b->(e a b=ť↔φ a=φ b)){k:K}(hk:D k):∀{l:List K},(∀x∈l,D x)->pos eqB (φ k) (l.map φ)=pos e k l
 |[],_=>rfl
 |x::l,h=>by
   have hx:=hφ x k (h x (by simp)) hk
   have ih:=Rc hφ hk (l:=l) (λy hy=>h y (by simp[hy]))
   simp only[zBg,pos,ih];by_cases hc:e x k=ť
   ·simp[hc,eqB,hx.1 hc]
   ·have:φ x≠φ k:=λh=>hc (hx.2 h)
    simp[hc,eqB,this]
theorem agD(hφ:∀a b,D a->D b->(e a b=ť↔φ a=φ b)){k}(hk:D k){l}(h:∀x∈l,D x):lj eqB (l.map φ) (φ k)=lj e l k:=by
 simp[lj,Rc hφ hk h]
theorem agG(hφ:∀a b,D a->D b->(e a b=ť↔φ a=φ b)){k}(hk:D k){l}(h:∀x∈l,D x):c5 eqB (l.map φ) (φ k)=(c5 e l k).map φ:=by
 simp only[c5,Rc hφ hk h];split<;>simp
theorem agH{l}(h:∀x∈l,D x){k}(hk:D k):∀x∈c5 e l k,D x:=λx hx=>by
 rcases xV hx with hx|rfl
 ·exact h x hx
 ·exact hk
theorem Px(hφ:∀a b,D a->D b->(e a b=ť↔φ a=φ b)){f g}:∀(m c:Nat)(l:List K),(∀d,c<=d->d<c+m->D (f d)/\g d=φ (f d))->(∀x∈l,D x)->
 aZ eqB g m c (l.map φ)=((aZ e f m c l).1,(aZ e f m c l).2.map φ)
 |0,_,_,_,_=>rfl
 |m+1,c,l,hf,h=>by
   obtain⟨h1,h2⟩:=hf c (by omega) (by omega)
   simp only[aZ,h2,agD hφ h1 h,agG hφ h1 h];rw[Px hφ m (c+1) _ (λd hd hd'=>hf d (by omega) (by omega)) (agH h h1)]
theorem IF(he:∀a,e a a=ť)(hφ:∀a b,D a->D b->(e a b=ť↔φ a=φ b)){step step'}(hD:∀q c,D q->c<95->D (step q c))(hs:∀q c,D q->c<95->step' (φ q) c=φ (step q c)){most}:
 ∀(f i:Nat)(l:List K)(rows:List (List Nat)),(∀x∈l,D x)->de eqB step' most f i (l.map φ) rows=(de e step most f i l rows).map λr=>(r.1.map φ,r.2)
 |0,_,_,_,_=>rfl
 |f+1,i,l,rows,h=>by
   simp only[de,zBf];cases hq:l[i]? with
   |none=>simp
   |some q=>
     have hq':=h q (zAc hq);simp only[zCe,Px hφ (f:=step q) (g:=step' (φ q)) 95 0 l (λd _ hd=>⟨hD q d hq' (by omega),hs q d hq' (by omega)⟩) h]
     simp only[zCf];split
     ·simp
     ·refine IF he hφ hD hs f _ _ _ λx hx=>?_
      rcases yc _ _ _ _ _ hx with hx|⟨d,_,hd,rfl⟩
      ·exact h x hx
      simp_all
end
theorem FO(he:∀a,e a a=ť){step most}{D:K->Prop}(hD:∀q c,D q->c<95->D (step q c))(hN:∀l:List K,(∀x∈l,D x)->mA e l->l.length<=most):
 ∀(f i:Nat)(l:List K)(rows:List (List Nat)),(∀x∈l,D x)->mA e l->i<=l.length->most+1<=f+i->∃r,de e step most f i l rows=ś r
 |0,i,l,rows,h,ha,hi,hf=>by grind
 |f+1,i,l,rows,h,ha,hi,hf=>by
   simp only[de];cases hq:l[i]? with
   |none=>exact⟨_,rfl⟩
   |some q=>
     have hq':=h q (zAc hq)
     have hd:∀x∈(aZ e (step q) 95 0 l).2,D x:=λx hx=>by
      rcases yc _ _ _ _ _ hx with hx|⟨d,_,hd,rfl⟩
      ·exact h x hx
      simp_all
     have ha':=fZ (e:=e) (step q) 95 0 l ha;have:=hN _ hd ha';obtain⟨t,ht⟩:=rC (e:=e) (step q) 95 0 l;have hi':=(zAb.1 hq).1;simp only;rw[if_neg (by omega)]
     exact FO he hD hN f (i+1) _ _ hd ha' (by rw[ht];simp;omega) (by omega)
end
end Go.Aut
end
section
namespace Go.Aut
theorem Ft:∀(N:Nat)(l:List Nat),(∀v<N,v∈l)->N<=l.length
 |0,_,_=>Nat.zero_le _
 |N+1,l,h=>by
   have h1:=Ft N (l.erase N) λv hv=>(List.mem_erase_of_ne (by omega)).2 (h v (by omega))
   have h2:=h N (by omega)
   have h3:=zCc h2;have h4:0<l.length:=List.length_pos_of_mem h2;omega
theorem Lz{N}{l:List Nat}(h:∀v<N,v∈l)(hl:l.length=N){i j:Nat}(hij:i<j){x}(hi:l[i]?=ś x)(hj:l[j]?=ś x):False:=by
 have h1:=Ft N (l.eraseIdx j) λv hv=>by
  grind[zAh,List.mem_eraseIdx_iff_getElem?]
 grind
theorem cU:∀(N:Nat)(l:List Nat),l.Nodup->(∀x∈l,x<N)->l.length<=N
 |0,l,_,h=>by
   cases l with
   |nil=>simp
   |cons x l=>have:=h x (by simp);omega
 |N+1,l,hn,h=>by
   have h1:=cU N (l.erase N) (hn.erase N) λx hx=>by
    have:=(hn.mem_erase_iff).1 hx;have:=h x this.2;omega
   by_cases hm:N∈l
   ·have:=zCc hm;omega
   ·rw[List.erase_of_not_mem hm]at h1;omega
section
variable {K:Type}[DecidableEq K]
theorem tF{a b:K}:eqB a b=ť↔a=b:=by simp[eqB]
theorem dV:∀a:K,(eqB:K->K->Bool) a a=true:=λa=>by simp[eqB]
theorem jf{l:List K}(h:mA eqB l):l.Nodup:=by
 rw[List.nodup_iff_pairwise_ne,List.pairwise_iff_getElem];intro i j hi hj hij he;have:=h i j _ _ hij (zAd hi) (zAd hj);grind[eqB]
end
def yX:Type:=List Nat->Bool
noncomputable instance:DecidableEq yX:=λa b=>Classical.propDecidable (a=b)
def Gh(L:yX)(c:Nat):yX:=λw=>L (c::w)
def lang(δ:Nat->Nat->Nat)(F:Nat->Bool):Nat->List Nat->Bool
 |q,[]=>F q
 |q,c::w=>if c<95 then lang δ F (δ q c) w else ğ
def wh(δ:Nat->Nat->Nat)(F:Nat->Bool)(q:Nat):yX:=λw=>lang δ F q w
theorem AT{δ F q c}(hc:c<95):Gh (wh δ F q) c=wh δ F (δ q c):=by
 funext w;simp[Gh,wh,lang,hc]
structure Aut where
 next:List (List Nat)
 final:List Bool
def dl(next:List (List Nat))(q c:Nat):Nat:=((next[q]?.getD [])[c]?).getD 0
def fin(final:List Bool)(q:Nat):Bool:=(final[q]?).getD ğ
def IZ(n:Nat)(next:List (List Nat)):Prop:=∀r∈next,r.length=95/\∀x∈r,x<n
theorem IZ.dl{n:Nat}{next:List (List Nat)}(h:IZ n next){q c:Nat}(hq:q<next.length)(hc:c<95):∃r x,next[q]?=ś r/\r[c]?=ś x/\dl next q c=x/\x<n:=by
 obtain⟨r,hr⟩:∃r,next[q]?=ś r:=⟨_,zAd hq⟩
 obtain⟨h1,h2⟩:=h r (zAc hr);obtain⟨x,hx⟩:∃x,r[c]?=ś x:=⟨_,zAd (by omega)⟩
 exact⟨r,x,hr,hx,by simp[Aut.dl,hr,hx],h2 x (zAc hx)⟩
namespace Aut
def n(a:Aut):Nat:=a.next.length
def δ(a:Aut):Nat->Nat->Nat:=dl a.next
def F(a:Aut):Nat->Bool:=fin a.final
structure ok (a:Aut):Prop where
 pos:0<a.n
 fin:a.final.length=a.n
 rows:IZ a.n a.next
def L(a:Aut)(q:Nat):yX:=wh a.δ a.F q
theorem ok.lt{a:Aut}(h:a.ok){q c}(hq:q<a.n)(hc:c<95):a.δ q c<a.n:=by
 obtain⟨r,x,h1,h2,h3,h4⟩:=h.rows.dl hq hc
 show dl a.next q c<a.n
 omega
end Aut
noncomputable def ai0(most f:Nat)(L:yX):Option (List yX×List (List Nat)):=de eqB Gh most f 0 [L] []
def D3(L:yX)(b:Aut):Prop:=∃most f ls,ai0 most f L=ś (ls,b.next)/\b.final=ls.map λM=>M []
theorem sA{K e step D}{q:K}(h:D q):WInv e step D 0 [q] []:=
 ⟨rfl,by simp,by simpa using h,mA.one q,λj hj=>by omega⟩
theorem D3.inv{L b}(h:D3 L b):∃ls:List yX,WInv eqB Gh (λ_=>True) ls.length ls b.next/\ls[0]?=ś L/\b.final=ls.map λM=>M []:=by
 obtain⟨m,f,ls,h1,h2⟩:=h;obtain⟨h3,t,h4⟩:=om dV (D:=λ_=>True) (λ_ _ _ _=>trivial) _ _ _ _ _ _ (sA trivial) h1;grind
theorem D3.ok{L b}(h:D3 L b):b.ok:=by
 obtain⟨ls,h1,h2,h3⟩:=h.inv;have hl:b.n=ls.length:=h1.len;refine⟨?_,by rw[h3,hl];simp,?_⟩
 ·grind
 ·intro r hr
  obtain⟨j,hj⟩:=zAh.1 hr;have hjl:=(zAb.1 hj).1;obtain⟨q,r',g1,g2,g3,g4⟩:=h1.row j (by have:=h1.len;omega)
  rw[hj]at g2;cases g2;refine⟨g3,λx hx=>?_⟩;obtain⟨c,hc⟩:=zAh.1 hx;obtain⟨k,y,f1,f2,f3⟩:=g4 c (by grind)
  grind
def Q3(L:yX):Prop:=∀w:List Nat,(∃c∈w,95<=c)->L w=ğ
theorem AW(δ)(F):∀(w:List Nat)(q:Nat),(∃c∈w,95<=c)->lang δ F q w=ğ
 |[],_,h=>by simp at h
 |d::w,q,h=>by
   simp only[lang];split
   ·refine AW δ F w _ ?_
    grind
   ·rfl
theorem vv(δ)(F)(q):Q3 (wh δ F q):=λw h=>AW δ F w q h
theorem D3.lang{L:yX}{b:Aut}(h:D3 L b)(hL:Q3 L):b.L 0=L:=by
 obtain⟨ls,h1,h2,h3⟩:=h.inv
 have key:∀(w:List Nat)(j:Nat)(M:yX),(∀c∈w,c<95)->ls[j]?=ś M->b.L j w=M w:=by
  intro w
  induction w with
  |nil=>
    intro j M _ hj;simp[Aut.L,wh,Aut.lang,Aut.F,fin,h3,hj]
  |cons c w ih=>
    intro j M hw hj;have hc:=hw c (by simp)
    obtain⟨q,r,g1,g2,g3,g4⟩:=h1.row j (zAb.1 hj).1;rw[hj]at g1;cases g1;obtain⟨k,x,f1,f2,f3⟩:=g4 c hc;have hx:=tF.1 f3;subst hx;have:=ih k _ (λd hd=>hw d (by simp[hd])) f2
    show Aut.lang b.δ b.F j (c::w)=_
    simp only[Aut.lang,if_pos hc];rw[show b.δ j c=k by simp[Aut.δ,dl,g2,f1]]
    exact this
 funext w;by_cases hw:∀c∈w,c<95
 ·exact key w 0 L hw h2
 ·have:∃c∈w,95<=c:=by
   apply Classical.byContradiction;intro hn
   exact hw λc hc=>by
    apply Classical.byContradiction;intro hc2;exact hn ⟨c,hc,by omega⟩
  rw[hL w this];exact AW _ _ w 0 this
theorem XK{K e step}{D:K->Prop}{φ:K->yX}(he:∀a,e a a=ť)(hφ:∀a b,D a->D b->(e a b=ť↔φ a=φ b))(hD:∀q c,D q->c<95->D (step q c))(hs:∀q c,D q->c<95->Gh (φ q) c=φ (step q c))
 {start} (h0:D start) {most f} {l} {rows} (h:de e step most f 0 [start] []=ś (l,rows)):D3 (φ start) ⟨rows,l.map λk=>φ k []⟩:=by
 refine⟨most,f,l.map φ,?_,by simp⟩
 have:=IF (D:=D) (φ:=φ) he hφ hD hs (most:=most) f 0 [start] [] (by simpa using h0)
 rw[h]at this;exact this
def keyOf(next:List (List Nat))(cls:List Nat)(q:Nat):List Nat:=(cls[q]?).getD 0::(next[q]?.getD []).map λt=>(cls[t]?).getD 0
def mh(next:List (List Nat)):Nat->List Nat->Nat->Option (List Nat)
 |0,_,_=>ń
 |f+1,cls,cnt=>if(aZ eqB (keyOf next cls) next.length 0 []).2.length=cnt then ś (aZ eqB (keyOf next cls) next.length 0 []).1
   else mh next f (aZ eqB (keyOf next cls) next.length 0 []).1 (aZ eqB (keyOf next cls) next.length 0 []).2.length
def b01(b:Bool):Nat:=if b=ť then 1 else 0
def xn(next:List (List Nat))(final:List Bool):Option (List Nat):=mh next (next.length+2) (final.map b01) 0
theorem AF{K e}(f):∀(m c:Nat)(l:List K),(aZ e f m c l).2.length<=l.length+m
 |0,_,_=>by simp[aZ]
 |m+1,c,l=>by
   simp only[aZ];have h1:=AF (e:=e) f m (c+1) (c5 e l (f c));have h2:(c5 e l (f c)).length<=l.length+1:=by unfold c5;split<;>simp
   omega
theorem I3{K e}(he:∀a,e a a=ť)(f)(m)(l:List K)(c){v}(h:v∈(aZ e f m c l).1):v<(aZ e f m c l).2.length:=by
 obtain⟨d,hd⟩:=zAh.1 h;obtain⟨k,x,h1,h2,_⟩:=n3 he f m c l d (by grind[zAb,yd])
 grind
section
variable {a:Aut}(ha:a.ok)
structure CInv (a:Aut) (cls:List Nat) (cnt:Nat):Prop where
 len:cls.length=a.n
 cover:∀v<cnt,v∈cls
 fin:∀p q,p<a.n->q<a.n->cls[p]?=cls[q]?->a.F p=a.F q
 snd:∀p q,p<a.n->q<a.n->a.L p=a.L q->cls[p]?=cls[q]?
theorem CE{next cls q r}(h:next[q]?=ś r):keyOf next cls q=(cls[q]?).getD 0::r.map λt=>(cls[t]?).getD 0:=by
 simp[keyOf,h]
include ha in
theorem R8{cls:List Nat}(hl:cls.length=a.n){p q:Nat}(hp:p<a.n)(hq:q<a.n):
 keyOf a.next cls p=keyOf a.next cls q↔(cls[p]?=cls[q]?/\∀c<95,cls[a.δ p c]?=cls[a.δ q c]?):=by
 obtain⟨r,hr⟩:∃r,a.next[p]?=ś r:=⟨_,zAd hp⟩;obtain⟨s,hs⟩:∃s,a.next[q]?=ś s:=⟨_,zAd hq⟩;have hr1:=ha.rows r (zAc hr);have hs1:=ha.rows s (zAc hs);have gd:∀t,t<a.n->cls[t]?=ś ((cls[t]?).getD 0):=λt ht=>by simp_all
 rw[CE hr,CE hs];simp only[zDi];refine and_congr ⟨λh=>by simp_all,λh=>congrArg (λo:Option Nat=>o.getD 0) h⟩ ?_
 constructor
 ·intro h c hc
  have:=congrArg (λl=>l[c]?) h;obtain⟨x,hx⟩:∃x,r[c]?=ś x:=⟨_,zAd (by omega)⟩
  obtain⟨y,hy⟩:∃y,s[c]?=ś y:=⟨_,zAd (by omega)⟩
  simp only[zBf,hx,hy,zCe,zAj]at this;have e1:a.δ p c=x:=by simp_all[Aut.δ,dl]
  have e2:a.δ q c=y:=by simp_all[Aut.δ,dl]
  grind
 ·intro h
  refine List.ext_getElem? λc=>?_;simp only[zBf];rcases zAi c 95 with hc|hc
  ·simp_all[zAd,Aut.δ,dl]
  simp_all
theorem Ya{K}[DecidableEq K](f:Nat->K)(m){p q}(hp:p<m)(hq:q<m):(aZ eqB f m 0 []).1[p]?=(aZ eqB f m 0 []).1[q]?↔f p=f q:=by
 obtain⟨k,x,h1,h2,h3⟩:=n3 dV f m 0 [] p hp;obtain⟨k',x',h4,h5,h6⟩:=n3 dV f m 0 [] q hq;have hx:=tF.1 h3;have hx':=tF.1 h6;simp only[zCd]at hx hx';rw[h1,h4];simp only[zAj];constructor
 ·grind
 grind[mA,eqB,aZ,fZ,zCa]
theorem U1{K}[DecidableEq K](f):∀(m c:Nat)(l:List K)(v:Nat),v<(aZ eqB f m c l).2.length->v<l.length\/v∈(aZ eqB f m c l).1
 |0,_,_,_,h=>.inl h
 |m+1,c,l,v,h=>by
   simp only[aZ]at h⊢;rcases U1 f m (c+1) (c5 eqB l (f c)) v h with h|h
   ·unfold c5 at h
    cases hp:pos eqB (f c) l with
    |none=>
      grind[zAi,lj]
    |some i=>simp_all
   simp_all
include ha in
theorem CInv.next{cls:List Nat}{cnt:Nat}(h:CInv a cls cnt):CInv a (aZ eqB (keyOf a.next cls) a.n 0 []).1 (aZ eqB (keyOf a.next cls) a.n 0 []).2.length:=by
 refine⟨yd _ _ _ _,λv hv=>by simpa using U1 (keyOf a.next cls) a.n 0 [] v hv,λp q hp hq he=>?_,λp q hp hq he=>?_⟩
 ·rw[Ya _ _ hp hq,R8 ha h.len hp hq]at he
  exact h.fin p q hp hq he.1
 ·rw[Ya _ _ hp hq,R8 ha h.len hp hq]
  refine⟨h.snd p q hp hq he,λc hc=>h.snd _ _ (ha.lt hp hc) (ha.lt hq hc) ?_⟩;have:Gh (a.L p) c=Gh (a.L q) c:=by rw[he]
  grind[Aut.L,AT]
include ha in
theorem CInv.grows{cls:List Nat}{cnt:Nat}(h:CInv a cls cnt):cnt<=(aZ eqB (keyOf a.next cls) a.n 0 []).2.length/\
 ((aZ eqB (keyOf a.next cls) a.n 0 []).2.length=cnt->∀p q,p<a.n->q<a.n->cls[p]?=cls[q]?->keyOf a.next cls p=keyOf a.next cls q):=by
 obtain⟨ks,hks⟩:∃ks,ks=(aZ eqB (keyOf a.next cls) a.n 0 []).2:=⟨_,rfl⟩
 have hcov:∀q<a.n,keyOf a.next cls q∈ks:=by
  intro q hq;obtain⟨k,x,h1,h2,h3⟩:=n3 dV (keyOf a.next cls) a.n 0 [] q hq;have:=tF.1 h3;grind
 have hh:∀v<cnt,v∈ks.map λk=>k.headD 0:=by
  intro v hv;obtain⟨q,hq⟩:=zAh.1 (h.cover v hv);have hql:=(zAb.1 hq).1;refine zDg.2 ⟨keyOf a.next cls q,hcov q (by have:=h.len;omega),by simp[keyOf,hq]⟩
 rw[<-hks];refine⟨by simpa using Ft cnt _ hh,λhc p q hp hq he=>?_⟩
 obtain⟨i,hi⟩:=zAh.1 (hcov p hp);obtain⟨j,hj⟩:=zAh.1 (hcov q hq);have e1:(ks.map λk=>k.headD 0)[i]?=ś ((cls[p]?).getD 0):=by simp[hi,keyOf]
 have e2:(ks.map λk=>k.headD 0)[j]?=ś ((cls[p]?).getD 0):=by grind[keyOf]
 rcases zCa i j with hij|hij|hij
 ·exact(Lz hh (by simpa using hc) hij e1 e2).elim
 ·simp_all
 ·exact(Lz hh (by simpa using hc) hij e2 e1).elim
structure IsCls (a:Aut) (cls:List Nat):Prop where
 len:cls.length=a.n
 lt:∀v∈cls,v<a.n
 cover:∀v∈cls,∀u<v,u∈cls
 eq:∀p q,p<a.n->q<a.n->(cls[p]?=cls[q]?↔a.L p=a.L q)
include ha in
theorem LA:∀(f:Nat)(cls:List Nat)(cnt:Nat),CInv a cls cnt->a.n+2<=f+cnt->cnt<=a.n->∃cls',mh a.next f cls cnt=ś cls'/\IsCls a cls'
 |0,_,_,_,_,_=>by omega
 |f+1,cls,cnt,h,hf,hle=>by
   have hn:a.next.length=a.n:=rfl;obtain⟨hg,hg2⟩:=h.grows ha;have hnx:=h.next ha;have hlen:=AF (e:=eqB) (keyOf a.next cls) a.n 0 [];simp only[zBe,zCd]at hlen;simp only[mh,hn];split
   ·rename_i hc
    have st:=hg2 hc;refine⟨_,rfl,hnx.len,λv hv=>?_,λv hv u hu=>?_,λp q hp hq=>⟨λhe=>?_,hnx.snd p q hp hq⟩⟩
    ·have:=I3 dV _ _ _ _ hv;omega
    ·have:=I3 dV _ _ _ _ hv;exact hnx.cover u (by omega)
    ·rw[Ya _ _ hp hq,R8 ha h.len hp hq]at he
     have bis:∀(w:List Nat)(p q:Nat),p<a.n->q<a.n->cls[p]?=cls[q]?->a.L p w=a.L q w:=by
      intro w
      induction w with
      |nil=>intro p q hp hq he;simpa[Aut.L,wh,lang]using h.fin p q hp hq he
      |cons c w ih=>
        intro p q hp hq he
        show lang _ _ p (c::w)=lang _ _ q (c::w)
        simp only[lang];split
        ·rename_i hcl
         have:=st p q hp hq he;rw[R8 ha h.len hp hq]at this;exact ih _ _ (ha.lt hp hcl) (ha.lt hq hcl) (this.2 c hcl)
        ·rfl
     funext w;grind
   ·rename_i hc
    exact LA f _ _ hnx (by omega) hlen
include ha in
theorem zI:∃cls,xn a.next a.final=ś cls/\IsCls a cls:=by
 have hn:a.next.length=a.n:=rfl;refine LA ha _ _ _ ⟨by simpa using ha.fin,λv hv=>by omega,λp q hp hq he=>?_,λp q hp hq he=>?_⟩ (by omega) (by omega)
 ·have g:∀t,t<a.n->a.final[t]?=ś (a.F t):=λt ht=>by simp[Aut.F,fin,zAd (show t<a.final.length by rw[ha.fin];exact ht)]
  grind[zAj,b01]
 ·have g:∀t,t<a.n->a.final[t]?=ś (a.F t):=λt ht=>by simp[Aut.F,fin,zAd (show t<a.final.length by rw[ha.fin];exact ht)]
  have:a.L p []=a.L q []:=by rw[he]
  simp_all[Aut.L,wh,lang]
end
def Ma:Nat->List Nat->List Nat->List Nat
 |_,[],o=>o
 |q,c::cls,o=>Ma (q+1) cls (o.set c q)
theorem yi:∀(cls o full:List Nat)(q:Nat),(∀j c,cls[j]?=ś c->full[q+j]?=ś c)->(∀c∈cls,c<o.length)->∀c:Nat,(c∈cls\/∃p,o[c]?=ś p/\full[p]?=ś c)->∃p,(Ma q cls o)[c]?=ś p/\full[p]?=ś c
 |[],o,full,q,_,_,c,h=>by
   rcases h with h|h
   ·cases h
   ·exact h
 |d::cls,o,full,q,hf,hl,c,h=>by
   simp only[Ma];refine yi cls (o.set d q) full (q+1) (λj c hj=>by have:=hf (j+1) c (by simpa using hj);grind) (λc hc=>by simp_all) c ?_
   by_cases hcd:c=d
   ·subst hcd
    refine .inr ⟨q,by simp_all,?_⟩
    simpa using hf 0 c (by simp)
   grind
def bh(l:List Nat)(i:Nat):Nat:=(l[i]?).getD 0
def WA(next:List (List Nat))(final:List Bool):Option Aut:=
 match FN eqB (dl next) 0 next.length with
 |none=>ń
 |some (list,nx)=>match xn nx (list.map (fin final))with
   |none=>ń
   |some cls=>match FN eqB (λc s=>bh cls (dl nx (bh (Ma 0 cls (zAe list.length 0)) c) s)) (bh cls 0) list.length with
     |none=>ń
     |some (l2,rows)=>ś ⟨rows,l2.map λc=>fin (list.map (fin final)) (bh (Ma 0 cls (zAe list.length 0)) c)⟩
theorem Ax{K e}(he:∀a,e a a=ť){step most D}(hD:∀q c,D q->c<95->D (step q c))(hN:∀l:List K,(∀x∈l,D x)->mA e l->l.length<=most){start}(h0:D start):
 ∃l rows,FN e step start most=ś (l,rows)/\WInv e step D l.length l rows/\l[0]?=ś start:=by
 obtain⟨⟨l,rows⟩,h⟩:=FO he hD hN (most+2) 0 [start] [] (by simpa using h0) (mA.one _) (by simp) (by omega)
 obtain⟨h3,t,h4⟩:=om he hD _ _ _ _ _ _ (sA h0) h;exact⟨l,rows,h,h3,by simp[h4]⟩
theorem BL{K}[DecidableEq K]{step}{D}{l}{rows}{good}(h:WInv eqB step D l.length l rows)(h0:0<l.length):
 (Aut.mk rows (l.map good)).ok/\∀(w:List Nat)(j:Nat)(q:K),(∀c∈w,c<95)->l[j]?=ś q->(Aut.mk rows (l.map good)).L j w=good (w.foldl step q):=by
 constructor
 ·refine⟨by have:=h.len;grind[Aut.n],by simp[Aut.n,h.len],?_⟩
  intro r hr;obtain⟨j,hj⟩:=zAh.1 hr;have hjl:=(zAb.1 hj).1;have hlen:=h.len;simp only at hj hjl;obtain⟨q,r',g1,g2,g3,g4⟩:=h.row j (by omega)
  rw[hj]at g2;cases g2;refine⟨g3,λx hx=>?_⟩;obtain⟨c,hc⟩:=zAh.1 hx;obtain⟨k,y,f1,f2,f3⟩:=g4 c (by grind)
  grind[zAb,Aut.n]
 ·intro w
  induction w with
  |nil=>
    simp_all[Aut.L,wh,lang,Aut.F,fin]
  |cons c w ih=>
    intro j q hw hj;have hc:=hw c (by simp)
    obtain⟨q',r,g1,g2,g3,g4⟩:=h.row j (zAb.1 hj).1;rw[hj]at g1;cases g1;obtain⟨k,x,f1,f2,f3⟩:=g4 c hc;have hx:=tF.1 f3;subst hx;have:=ih k _ (λd hd=>hw d (by simp[hd])) f2
    show lang _ _ j (c::w)=_
    simp only[lang,if_pos hc];rw[show(Aut.mk rows (l.map good)).δ j c=k by simp_all[Aut.δ,dl]]
    exact this
theorem ae9{a:Aut}(ha:a.ok):∀(w:List Nat)(q:Nat),(∀c∈w,c<95)->q<a.n->a.L q w=a.F (w.foldl a.δ q)/\w.foldl a.δ q<a.n
 |[],q,_,hq=>⟨rfl,hq⟩
 |c::w,q,hw,hq=>by
   have hc:=hw c (by simp)
   have:=ae9 ha w (a.δ q c) (λd hd=>hw d (by simp[hd])) (ha.lt hq hc)
   refine⟨?_,this.2⟩;rw[<-show a.L (a.δ q c) w=a.L q (c::w) by simp[Aut.L,wh,lang,hc]]
   exact this.1
theorem afy{L M}(hL:Q3 L)(hM:Q3 M)(h:∀w:List Nat,(∀c∈w,c<95)->L w=M w):L=M:=by
 funext w;by_cases hw:∀c∈w,c<95
 ·exact h w hw
 ·have:∃c∈w,95<=c:=by
   simp_all
  rw[hL w this,hM w this]
theorem Wz{a:Aut}(ha:a.ok):∃b,WA a.next a.final=ś b/\D3 (a.L 0) b/\b.n<=a.n:=by
 obtain⟨list,nx,hw,hI,h0⟩:=Ax dV (step:=dl a.next) (most:=a.next.length) (D:=λq=>q<a.n) (λq c hq hc=>ha.lt hq hc)
  (λl h1 h2=>cU _ l (jf h2) h1) (start:=0) ha.pos
 have hlpos:0<list.length:=(zAb.1 h0).1;have hle:list.length<=a.n:=cU _ list (jf hI.apart) hI.dom;obtain⟨hb,hrun⟩:=BL (good:=fin a.final) hI hlpos;obtain⟨b,hbe⟩:∃b:Aut,b=⟨nx,list.map (fin a.final)⟩:=⟨_,rfl⟩;rw[<-hbe]at hb hrun;have hbn:b.n=list.length:=by rw[hbe];exact hI.len
 obtain⟨cls,hc,hC⟩:=zI hb;have hc':xn nx (list.map (fin a.final))=ś cls:=by simp_all
 obtain⟨o,ho⟩:∃o,o=Ma 0 cls (zAe list.length 0):=⟨_,rfl⟩
 have hof:∀c∈cls,∃p,o[c]?=ś p/\cls[p]?=ś c:=λc hcm=>by
  rw[ho];exact yi cls _ cls 0 (λj c hj=>by simpa using hj) (λc hc=>by have:=hC.lt c hc;simp;omega) c (.inl hcm)
 have hst:∀c s,c∈cls->s<95->bh cls (dl nx (bh o c) s)∈cls/\Gh (b.L (bh o c)) s=b.L (bh o (bh cls (dl nx (bh o c) s))):=by
  intro c s hcm hs;obtain⟨p,hp1,hp2⟩:=hof c hcm;have hpl:p<b.n:=by have:=(zAb.1 hp2).1;have:=hC.len;omega
  have e1:bh o c=p:=by simp[bh,hp1]
  have hd:=hb.lt hpl hs;have e2:dl nx p s=b.δ p s:=by rw[hbe];rfl
  obtain⟨v,hv⟩:∃v,cls[b.δ p s]?=ś v:=⟨_,zAd (by have:=hC.len;omega)⟩
  have hvm:=zAc hv;obtain⟨p',hp3,hp4⟩:=hof v hvm;have e3:bh cls (dl nx (bh o c) s)=v:=by grind[bh]
  rw[e3];refine⟨hvm,?_⟩;rw[e1,show bh o v=p' by simp[bh,hp3]]
  rw[Aut.L,AT hs];exact(hC.eq _ _ hd (by have:=(zAb.1 hp4).1;have:=hC.len;omega)).1 (by rw[hv,hp4])
 have hφ:∀c d,c∈cls->d∈cls->(eqB c d=ť↔b.L (bh o c)=b.L (bh o d)):=by
  intro c d hcm hdm;obtain⟨p,hp1,hp2⟩:=hof c hcm;obtain⟨q,hq1,hq2⟩:=hof d hdm;have hpl:p<b.n:=by have:=(zAb.1 hp2).1;have:=hC.len;omega
  have hql:q<b.n:=by have:=(zAb.1 hq2).1;have:=hC.len;omega
  rw[show bh o c=p by simp[bh,hp1],show bh o d=q by simp[bh,hq1],<-hC.eq p q hpl hql,hp2,hq2,tF]
  simp
 have hc0:bh cls 0∈cls:=by
  have:0<cls.length:=by have:=hC.len;omega
  grind[bh,zAd]
 obtain⟨l2,rows,hw2,hI2,h02⟩:=Ax dV (step:=λc s=>bh cls (dl nx (bh o c) s)) (most:=list.length) (D:=λc=>c∈cls) (λq c hq hc=>(hst q c hq hc).1)
  (λl h1 h2=>cU _ l (jf h2) λx hx=>by have:=hC.lt x (h1 x hx);omega) (start:=bh cls 0) hc0
 have hcan:=XK (φ:=λc=>b.L (bh o c)) dV hφ (λq c hq hc=>(hst q c hq hc).1) (λq c hq hc=>(hst q c hq hc).2) hc0 hw2;refine⟨⟨rows,l2.map λc=>fin (list.map (fin a.final)) (bh o c)⟩,?_,?_,?_⟩
 ·unfold WA;simp_all
 ·have e1:b.L (bh o (bh cls 0))=a.L 0:=by
   obtain⟨p,hp1,hp2⟩:=hof _ hc0;have hpl:p<b.n:=by have:=(zAb.1 hp2).1;have:=hC.len;omega
   have h0l:0<cls.length:=by have:=hC.len;omega
   rw[show bh o (bh cls 0)=p by rw[bh,hp1];rfl,(hC.eq p 0 hpl hb.pos).1 (by grind[bh,zAd])]
   refine afy (vv _ _ _) (vv _ _ _) λw hw=>?_;rw[hrun w 0 0 hw h0];exact(ae9 ha w 0 hw ha.pos).1.symm
  rw[e1]at hcan
  have e2:(l2.map λc=>fin (list.map (fin a.final)) (bh o c))=l2.map λc=>b.L (bh o c) []:=by
   refine zDa λc _=>?_;rw[hbe];rfl
  rw[e2];exact hcan
 ·show rows.length<=a.n
  rw[hI2.len];have:=cU list.length l2 (jf hI2.apart) λx hx=>by have:=hC.lt x (hI2.dom x hx);omega
  omega
end Go.Aut
end
section
set_option maxHeartbeats 4000000
set_option maxRecDepth 100000
namespace Go.Abs
open Go.Proofs
attribute [-simp] getElem?_pos zCb zBi
theorem mixed:ŷ.follows .mixedOrders=true:=by kernel_rfl
abbrev Str:=List UInt8
theorem bk{α:Type}{l:List α}{k x}(h:l[k]?=ś x):l.take (k+1)=l.take k++[x]:=by grind[List.take_add_one]
theorem aaH:∀{l:List V}{v:V},oks l->v∈l->ok v
 |[],_,_,h=>by cases h
 |u::l,v,h,hv=>by
   simp only[oks]at h;rcases zBc.1 hv with rfl|hv
   ·exact h.1
   ·exact aaH h.2 hv
def zV(n:Int):V:=.int .i64 n
@[simp] def aeL (r:List Int):V:=.seq 1 (r.map zV)
def xS(nx:List (List Int))(fi:List Bool):List V:=[.seq 1 (nx.map aeL),.seq 1 (fi.map .bool)]
def xo(n:Nat)(q:Int):Bool:=decide (0<=q)&&decide (q<n)
def I2(n:Nat)(r:List Int):Bool:=decide (r.length=95)&&r.all (xo n)
def acn(nx:List (List Int))(fi:List Bool):Bool:=(decide (1<=nx.length)&&(decide (nx.length<=500)&&decide (fi.length=nx.length)))&&nx.all (I2 nx.length)
def err01(b:Bool):Int:=if b=ť then 0 else 1
theorem ac3 (nx) (fi):Fn ŷ EA [.strct (xS nx fi)] (.int .i64 (err01 (acn nx fi))):=by
 refine yoB acG λho=>?_
 simp only [oks,ok,and_true] at ho
 obtain ⟨R,hR⟩:∃ R,R=acn nx fi:=⟨_,rfl⟩
 have hl1:nx.length≤140737488355328:=by grind[xS,oks,ok]
 have hl2:∀ r∈nx,r.length≤140737488355328:=λr hr=>by
  have:=ho; simp [xS,oks,ok] at this
  have:=aaH this.1.2 (List.mem_map_of_mem hr)
  simp_all
 clear ho
 rw [←hR]
 have go:((1≤nx.length∧nx.length≤500)∧fi.length=nx.length)→nx.all (I2 nx.length)=R:=λh=>by grind[acn,decide_eq_true]
 have no:¬((1≤nx.length∧nx.length≤500)∧fi.length=nx.length)→R=false:=λh=>by grind[acn]
 clear hR
 replace go:=hid go
 replace no:=hid no
 simp (disch:=omega) [-zAa,xS]
 repeat' (first | (refine BrKd.mk (λh=>?_) (λh=>?_)<;>simp (disch:=omega) [*]) | (refine BrK.mk (λh=>?_) (λh=>?_)<;>simp (disch:=omega) [*]))
 · rw [no.out (by simp [*])]; rfl
 · rw [no.out (by omega)]; rfl
 · have h0:0 < nx.length:=List.length_pos_iff.2 ‹_›
   have hg:=go.out ⟨⟨by omega,by omega⟩,by omega⟩
   clear go no
   refine ah (λk:Nat=>⟨[(3,.int .i64 nx.length),(25,.seq 1 (nx.map aeL)),(26,.int .i64 nx.length),(27,.int .i64 k)],[]⟩) (λk=>k≤nx.length∧(nx.drop k).all (I2 nx.length)=R) (λk=>nx.length - k) [] _ 0 rfl (by simp) (by simp [hg]) ?_
   rintro k ⟨hk,hi⟩ N hN
   rcases place nx k hk with ⟨he,hd⟩ | ⟨hlt,x,hx,hd⟩<;>rw [hd] at hi
   · simp at hi
     subst hi
     simp (disch:=omega) [-zAa,he]
     rfl
   · have hxl:=hl2 x (zAc hx)
     simp only [zDe] at hi
     replace hi:=hid hi
     simp (disch:=omega) [-zAa,hx]
     refine BrKd.mk (λh95=>?_) (λh95=>?_)
     · simp (disch:=omega) [-zAa,h95]
       refine ah (λj:Nat=>⟨[(3,.int .i64 nx.length),(25,.seq 1 (nx.map aeL)),(26,.int .i64 nx.length),(27,.int .i64 k),(34,.seq 1 (x.map zV)),(35,.int .i64 x.length),(36,.int .i64 j)],[]⟩) (λj=>j≤x.length∧x.all (xo nx.length)=(x.drop j).all (xo nx.length)) (λj=>x.length - j) [] _ 0 rfl (by simp [h95]) (by simp) ?_
       rintro j ⟨hj,hi2⟩ M hM
       rcases place x j hj with ⟨he,hd2⟩ | ⟨hlt2,y,hy,hd2⟩<;>rw [hd2] at hi2
       · simp (disch:=omega) [-zAa,he]
         have hi:=hi.out
         rw [I2,decide_eq_true (by omega),hi2] at hi
         exact hN.out _<|Nx.mk (k + 1) (by simp) ⟨by omega,by simpa using hi⟩ (by omega)
       · simp only [zDe] at hi2
         replace hi2:=hid hi2
         have bad:xo nx.length y=ğ→R=false:=λh=>by grind[I2]
         replace bad:=hid bad
         simp (disch:=omega) [-zAa,hy,zV]
         repeat' (first | (refine BrKd.mk (λh=>?_) (λh=>?_)<;>simp (disch:=omega) [*]) | (refine BrK.mk (λh=>?_) (λh=>?_)<;>simp (disch:=omega) [*]))
         all_goals first
          | (rw [bad.out (by simp [xo]; omega)]; rfl)
          | (refine hM.out _<|Nx.mk (j + 1) (by simp [h95]) ⟨by omega,?_⟩ (by omega)
             have:=hi2.out
             simp_all[xo,Bool.true_and])
     · simp (disch:=omega) [-zAa,h95]
       have hi:=hi.out
       rw [I2,decide_eq_false (by omega)] at hi
       simp at hi
       rw [hi]; rfl
 · rw [no.out (by omega)]; rfl
open Go.Aut
def nV(n:Nat):V:=.int .i64 n
def di(r:List Nat):V:=.seq 1 (r.map nV)
def fN(nx:List (List Nat)):V:=.seq 1 (nx.map di)
def TG(fi:List Bool):V:=.seq 1 (fi.map .bool)
def Aut.c(a:Aut):List V:=[fN a.next,TG a.final]
theorem ah5(r):di r=aeL (r.map λ(n:Nat)=>(n:Int)):=by simp only[di,aeL,zBi];rfl
theorem Aut.c_eq(a):Aut.c a=xS (a.next.map λr=>r.map λ(n:Nat)=>(n:Int)) a.final:=by
 simp_all[Aut.c,xS,fN,TG,zBi,zDa,zDf,ah5]
theorem aiw{a:Aut}(h:a.ok)(hn:a.n<=500):acn (a.next.map λr=>r.map λ(n:Nat)=>(n:Int)) a.final=true:=by
 have h1:=h.pos;have h2:=h.fin;simp only[Aut.n]at h1 hn h2;simp only[acn,zCf,zDb,decide_eq_true_eq,zDh,zDc];refine⟨⟨by omega,by omega,by omega⟩,λr hr=>?_⟩
 obtain⟨h3,h4⟩:=h.rows r hr;simp only[zDf,I2,zDb,decide_eq_true_eq,zCf,zDh,zDc];grind[Aut.n,xo]
theorem tD{a}(h:a.ok)(hn:a.n<=500):Fn ŷ EA [.strct (Aut.c a)] (.int .i64 0):=by
 have:=ac3 (a.next.map λr=>r.map λ(n:Nat)=>(n:Int)) a.final;rw[<-Aut.c_eq,aiw h hn]at this;exact this
end Go.Abs
end
section
set_option maxHeartbeats 4000000
set_option maxRecDepth 100000
namespace Go.Abs
open Go.Proofs Go.Aut
attribute [-simp] getElem?_pos zCb zBi
theorem akD(n):zCi n 2=[n,n+1]:=rfl
theorem akC(n):zCi n 3=[n,n+1,n+2]:=rfl
theorem akB(n):zCi n 4=[n,n+1,n+2,n+3]:=rfl
theorem akA(n):zCi n 5=[n,n+1,n+2,n+3,n+4]:=rfl
attribute [simp] akD akC akB akA nV
section
variable {K:Type}[DecidableEq K](kv:K->V)
def ee:Nat->List K->List (V×V)
 |_,[]=>[]
 |i,k::l=>(kv k,nV i)::ee (i+1) l
variable {kv}
theorem rL(he:∀a b,eqK (kv a) (kv b)=decide (a=b))(k):∀(l:List K)(i:Nat),lU (kv k) (ee kv i l)=(pos eqB k l).map λj=>nV (i+j)
 |[],i=>rfl
 |x::l,i=>by
   have ih:=rL he k l (i+1);have hx:(eqB x k=ť)=(x=k):=by simp[eqB]
   simp only[ee,lU,pos,he,ih,hx,decide_eq_true_eq];by_cases h:x=k
   ·simp[h]
   ·rw[if_neg (λe=>h e.symm),if_neg h]
    cases pos eqB k l<;>simp[Nat.add_assoc,Nat.add_comm 1]
theorem rK(he:∀a b,eqK (kv a) (kv b)=decide (a=b))(k):∀(l:List K)(i:Nat),pos eqB k l=ń->nq (kv k) (nV (i+l.length)) (ee kv i l)=ee kv i (l++[k])
 |[],i,_=>rfl
 |x::l,i,h=>by
   simp only[pos]at h;split at h
   ·cases h
   ·rename_i hx
    have h':pos eqB k l=none:=by simpa using h
    have ih:=rK he k l (i+1) h';simp only[zDd,ee,nq,he];rw[if_neg (by grind[eqB]),<-ih]
    congr 3;simp;omega
end
@[simp] def fH (kt:KT) (e sz:Nat) {K:Type} (kv:K->V) (l:List K):List (Option Ob):=[ś (.box [.ref 1 0,.ref 2 l.length]),ś (.mp kt (ee kv 0 l)),ś (.arr e sz (l.map kv))]
@[simp] def s7 (kt:KT) (sz:Nat):List (Option Ob):=[ś (.box [.ref 1 0,.nil sz]),ś (.mp kt [])]
theorem af9(a b):eqK (nV a) (nV b)=decide (a=b):=by
 grind[eqK,pm,nV,cl,eqC]
def ktI:KT:=⟨ğ,[.i .i64]⟩
theorem Di(q):FnH ŷ oI [0] [.ptr 0 0,nV q] (s7 ktI 1) (nV 0) (fH ktI ap 1 nV [q]):=by
 refine yoH oX ?_;simp(disch:=omega) [-zAa,s7,fH,ktI,nV,lU,nq,ee,b5,kOf,aU,bH,gD]
theorem ki{K}[DecidableEq K]{l}{q:K}{i}(hp:pos eqB q l=ś i):lj eqB l q=i/\c5 eqB l q=l:=by simp[lj,c5,hp]
theorem sr{K}[DecidableEq K]{l}{q:K}(hp:pos eqB q l=ń):lj eqB l q=l.length/\c5 eqB l q=l++[q]:=by simp[lj,c5,hp]
theorem zG(l)(q)(hl:l.length<=1000000):FnH ŷ oI [0] [.ptr 0 0,nV q] (fH ktI ap 1 nV l) (nV (lj eqB l q)) (fH ktI ap 1 nV (c5 eqB l q)):=by
 refine yoH oX ?_;have hm:=rL af9 q l 0;cases hp:pos eqB q l with
 |some i=>
   rw[hp]at hm;replace hm:lU (.int .i64 (q:Int)) (ee nV 0 l)=ś (.int .i64 (i:Int)):=by simpa[nV]using hm
   obtain⟨h1,h2⟩:=ki hp;rw[h1,h2];simp(disch:=omega) [-zAa,fH,ktI,nV,b5,kOf,aU,bH,gD,hm]
 |none=>
   rw[hp]at hm;replace hm:lU (.int .i64 (q:Int)) (ee nV 0 l)=none:=by simpa[nV]using hm
   have hpt:=rK af9 q l 0 hp;replace hpt:nq (.int .i64 (q:Int)) (.int .i64 (l.length:Int)) (ee nV 0 l)=ee nV 0 (l++[q]):=by simpa[nV]using hpt
   obtain⟨h1,h2⟩:=sr hp;rw[h1,h2];simp(disch:=omega) [-zAa,fH,ktI,nV,b5,kOf,aU,bH,gD,hm,hpt]
theorem Lc(q):FnH ŷ JD [] [.seq 1 [nV q]] [] (.ptr 0 0) (fH ktI ap 1 nV [q]):=by
 refine yoH Kc ?_;simp(disch:=omega) [-zAa];refine ah (λk:Nat=>if k=0 then⟨[(3,.ptr 0 0),(9,.seq 1 [nV q]),(10,.int .i64 1),(11,.int .i64 0)],s7 ktI 1⟩else⟨[(3,.ptr 0 0),(9,.seq 1 [nV q]),(10,.int .i64 1),(11,.int .i64 1)],fH ktI ap 1 nV [q]⟩) (λk=>k<=1) (λk=>1-k) [] _ 0 rfl (by simp[s7,ktI]) (by simp) ?_
 intro k hk N hN;rcases(show k=0\/k=1 by omega)with rfl|rfl
 ·simp(disch:=omega) [-zAa,s7,nV]
  refine am [0] 1 [0,1] (by simp) (by simp) (by simp) (by simp) (Di q) (by simp[fH]) λ_ _=>?_
  simp(disch:=omega) [-zAa,fH,s7];exact hN.out _<|Nx.mk 1 (by simp[fH,nV]) (by simp) (by simp)
 simp
attribute [simp] di fN TG
theorem Ub{nx q c r x}(hr:nx[q]?=ś r)(hx:r[c]?=ś x):FnH ŷ jH [2] [nV q,nV c,.ptr 0 0] [ś (.box [fN nx])] (nV x) [ś (.box [fN nx])]:=by
 refine yoH SO ?_;simp_all
def me(acc:List Nat):List V:=(acc++zAe (95-acc.length) 0).map nV
theorem n9{acc}(h:acc.length<=95):(me acc).length=95:=by simp[me];omega
theorem E4{acc}(h:acc.length<95)(k):(me acc).set acc.length (nV k)=me (acc++[k]):=by
 obtain⟨m,hm⟩:∃m,95-acc.length=m+1:=⟨94-acc.length,by omega⟩
 grind[m,me,List.append_assoc,zBh]
theorem oc{acc}(h:acc.length<95):(me acc)[acc.length]?=ś (.int .i64 0):=by
 grind[m,me,zBd,nV]
theorem Bl{acc}(h:acc.length=95):me acc=acc.map nV:=by simp[me,h]
theorem E5:zAe 95 (V.int .i64 0)=me []:=by simp[me]
theorem Ij{K}[DecidableEq K]{l}(h:mA eqB l){i}{q:K}(hq:l[i]?=ś q):pos eqB q l=ś i:=
 ae1 (λa b h=>by grind[eqB]) (λa b c h1 h2=>by grind[eqB]) h hq (dV q)
theorem I9{K}[DecidableEq K]{q}:∀{l:List K},pos eqB q l=ń->pos eqB q (l++[q])=ś l.length
 |[],_=>by simp[pos,eqB]
 |x::l,h=>by
   simp only[pos]at h;split at h
   ·cases h
   ·rename_i hx
    have h':pos eqB q l=none:=by simpa using h
    simp only[zDd,pos,hx,I9 h'];simp
theorem Rd{K}[DecidableEq K](l)(q:K):pos eqB q (c5 eqB l q)=ś (lj eqB l q):=by
 cases hp:pos eqB q l with
 |some i=>grind[ki]
 |none=>grind[sr,I9]
theorem Iw{K}[DecidableEq K](l)(q:K):(c5 eqB l q).length<=l.length+1:=by grind[c5]
theorem L1{K}[DecidableEq K]{l}{q x:K}{i:Nat}(h:l[i]?=ś x):(c5 eqB l q)[i]?=ś x:=by
 grind[c5,zAf,zAb]
def wkH(X:Option Ob)(rows:List (List Nat))(l:List Nat):List (Option Ob):=[X,ś (.box [.ref 3 0,.ref 4 l.length]),ś (.arr aN 1 (rows.map di)),ś (.mp ktI (ee nV 0 l)),ś (.arr ap 1 (l.map nV))]
def wkI(X:Option Ob)(rows:List (List Nat))(l:List Nat)(acc:List Nat):List (Option Ob):=[X,ś (.box [.ref 4 0,.ref 5 l.length]),ś (.arr aN 1 (rows.map di)),ś (.arr ap 1 (me acc)),ś (.mp ktI (ee nV 0 l)),ś (.arr ap 1 (l.map nV))]
theorem OB (nx) (n) (hn:IZ n nx) (hnl:nx.length=n) (most) (hm:most≤100000) (start) (h0:start < n) (list) (rows) (hw:FN eqB (dl nx) start most=ś (list,rows)):
 FnH ŷ v7 [1] [nV start,.fn (.func jH) [] [.ptr 0 0],nV most] [ś (.box [fN nx])] (.tup [.ref 1 list.length,.ref 2 rows.length,.bool ť]) [ś (.box [fN nx]),ś (.arr ap 1 (list.map nV)),ś (.arr aN 1 (rows.map di))]:=by
 refine yoH wy ?_
 obtain ⟨R,hR⟩:∃ R,R=(V.tup [.ref 1 list.length,.ref 2 rows.length,.bool ť]):=⟨_,rfl⟩
 rw [←hR]
 simp (disch:=omega) [-zAa]
 refine am [] 0 [] (by simp) (by simp) (by simp) (by simp) (Lc start) (by simp) λ_ _=>?_
 simp (disch:=omega) [-zAa]
 refine ah (λ(x:Nat × Nat × List Nat × List (List Nat))=>⟨[(1,.fn (.func jH) [] [.ptr 0 0]),(2,nV most),(9,.ptr 1 0),(10,.ref 2 x.2.2.2.length),(11,nV x.2.1)],wkH (ś (.box [fN nx])) x.2.2.2 x.2.2.1⟩)
  (λx=>(∀ q∈x.2.2.1,q < n)∧mA eqB x.2.2.1∧x.2.1≤x.2.2.1.length∧x.2.2.2.length=x.2.1∧x.2.2.1.length≤most + 1∧de eqB (dl nx) most x.1 x.2.1 x.2.2.1 x.2.2.2=ś (list,rows)) (λx=>x.1) [.r 10 aN 1] _ (most + 2,0,[start],[]) rfl (by simp [wkH,ee]) ⟨by simpa using h0,mA.one _,by simp,rfl,by simp,hw⟩ ?_
 rintro ⟨f,i,l,rw⟩ ⟨hd,hap,hil,hrl,hlm,hi⟩ N hN
 simp only at hd hap hil hrl hlm hi
 cases f with
 | zero=>simp [de] at hi
 | succ f=>
 simp only [de] at hi
 rcases zAi i l.length with hlt | hge
 · obtain ⟨q,hq⟩:=av hlt
   rw [hq] at hi
   simp only at hi
   have hqn:=hd q (zAc hq)
   obtain ⟨T,hT⟩:∃ T,T=aZ eqB (dl nx q) 95 0 l:=⟨_,rfl⟩
   rw [←hT] at hi
   replace hi:=hid hi
   simp (disch:=omega) [-zAa,wkH,hq]
   refine ah (λ(x:List Nat × List Nat × Nat × Nat)=>⟨[(1,.fn (.func jH) [] [.ptr 0 0]),(2,nV most),(9,.ptr 1 0),(10,.ref 2 rw.length),(11,nV i),(12,.ref 3 95),(13,nV x.2.2.1),(14,nV x.2.2.2),(39,.int .i64 95),(40,nV x.1.length)],wkI (ś (.box [fN nx])) rw x.2.1 x.1⟩)
    (λx=>(∀ q∈x.2.1,q < n)∧x.1.length≤95∧x.2.1[i]?=ś q∧x.2.1.length≤most + 1 + x.1.length∧pos eqB x.2.2.1 x.2.1=ś x.2.2.2∧(x.1++(aZ eqB (dl nx q) (95 - x.1.length) x.1.length x.2.1).1,(aZ eqB (dl nx q) (95 - x.1.length) x.1.length x.2.1).2)=T)
    (λx=>95 - x.1.length) [] _ ([],l,q,i) rfl (by simp [wkI,E5]) ⟨hd,by simp,hq,by simp; omega,Ij hap hq,by simp [hT]⟩ ?_
   rintro ⟨acc,l',last,num⟩ ⟨hd',hc,hq',hl',hp,hi'⟩ M hM
   simp only at hd' hc hq' hl' hp hi'
   rcases zAi acc.length 95 with hc95 | hc95
   · obtain ⟨rr,t,hr1,hr2,hr3,hr4⟩:=hn.dl (q:=q) (c:=acc.length) (by omega) hc95
     obtain ⟨m',hm'⟩:∃ m',95 - acc.length=m' + 1:=⟨94 - acc.length,by omega⟩
     have hm2:95 - (acc.length + 1)=m':=by omega
     rw [hm'] at hi'
     simp only [aZ,hr3] at hi'
     have hset:=E4 hc95
     have hfl:=n9 (acc:=acc) (by omega)
     replace hi':=hid hi'
     have hil':=(zAb.1 hq').1
     simp (disch:=omega) [-zAa,wkI,hq']
     refine am [2] 1 [0] (by simp) (by simp) (by simp) (by simp) (Ub hr1 hr2) (by simp) λ_ _=>?_
     simp (disch:=omega) [-zAa,hq']
     have next:∀ (num':Nat) (last':Nat),pos eqB last' (c5 eqB l' t)=ś num'→num'=lj eqB l' t→∀ τ:St,τ.nrm [1,2,9,10,11,12,13,14,39,40]=⟨[(1,.fn (.func jH) [] [.ptr 0 0]),(2,nV most),(9,.ptr 1 0),(10,.ref 2 rw.length),(11,nV i),(12,.ref 3 95),(13,nV last'),(14,nV num'),(39,.int .i64 95),(40,.int .i64 ((acc.length:Int) + 1))],wkI (ś (.box [fN nx])) rw (c5 eqB l' t) (acc++[num'])⟩→M τ:=by
      intro num' last' h1 h2 τ hτ
      have h3:=Iw l' t
      refine hM.out τ<|Nx.mk (acc++[num'],c5 eqB l' t,last',num') (by simpa using hτ) ⟨?_,by simp; omega,L1 hq',by simp; omega,h1,?_⟩ (by simp; omega)
      · intro x hx
        rcases xV hx with hx | rfl
        · exact hd' x hx
        · exact hr4
      · have:=hi'.out
        grind
     replace next:=hid next
     by_cases hlt2:t=last
     · subst hlt2
       obtain ⟨e1,e2⟩:=ki hp
       have hs:=hset num
       simp only [nV] at hs
       simp (disch:=omega) [-zAa,hfl,hs,oc hc95]
       exact next.out num t (by rw [e2]; exact hp) e1.symm _ (by simp [wkI,e2])
     · simp (disch:=omega) [-zAa,hlt2]
       refine am [0] 1 [1,4,5] (by simp) (by simp) (by simp) (by simp) (zG l' t (by omega)) (by simp) λ_ _=>?_
       have hs:=hset (lj eqB l' t)
       simp only [nV] at hs
       simp (disch:=omega) [-zAa,hfl,hs,oc hc95]
       exact next.out _ t (Rd l' t) rfl _ (by simp [wkI])
   · have hacc:acc.length=95:=by omega
     have h0:95 - acc.length=0:=by omega
     rw [h0] at hi'
     simp only [aZ,zCg] at hi'
     subst hi'
     have hil':=(zAb.1 hq').1
     have hi2:=hi.out
     simp only at hi2
     split at hi2
     · cases hi2
     · rename_i hle
       have hf:=Bl hacc
       have hfl:(me acc).length=95:=n9 (by omega)
       simp (disch:=omega) [-zAa,wkI,hacc,hfl]
       refine hN.out _<|Nx.mk (f,i + 1,l',rw++[acc]) (by simp [wkH,hf,hrl]) ⟨hd',?_,by simp only; omega,by simp [hrl],by simp only; omega,hi2⟩ (by simp only; omega)
       grind[fZ,eqB,dl]
 simp_all[zBb,zAj,zCj,zAa,wkH]
def f2H(cls:List Nat)(nx:List (List Nat))(of:List Nat):List (Option Ob):=[ś (.box [di cls]),ś (.box [.ref 3 nx.length]),ś (.box [.ref 4 of.length]),ś (.arr aN 1 (nx.map di)),ś (.arr ap 1 (of.map nV))]
def f2R(cls:List Nat)(nx:List (List Nat))(of list:List Nat)(rows:List (List Nat)):List (Option Ob):=[ś (.box [di cls]),ś (.box [.ref 5 nx.length]),ś (.box [.ref 6 of.length]),ś (.arr ap 1 (list.map nV)),ś (.arr aN 1 (rows.map di)),ś (.arr aN 1 (nx.map di)),ś (.arr ap 1 (of.map nV))]
attribute [simp] f2H f2R
def aec(cls:List Nat)(nx:List (List Nat))(of:List Nat)(rows:List (List Nat))(l:List Nat):List (Option Ob):=[ś (.box [di cls]),ś (.box [.ref 5 nx.length]),ś (.box [.ref 6 of.length]),ś (.box [.ref 7 0,.ref 8 l.length]),ś (.arr aN 1 (rows.map di)),ś (.arr aN 1 (nx.map di)),ś (.arr ap 1 (of.map nV)),ś (.mp ktI (ee nV 0 l)),ś (.arr ap 1 (l.map nV))]
def XI(cls:List Nat)(nx:List (List Nat))(of:List Nat)(rows:List (List Nat))(l:List Nat)(acc:List Nat):List (Option Ob):=[ś (.box [di cls]),ś (.box [.ref 6 nx.length]),ś (.box [.ref 7 of.length]),ś (.box [.ref 8 0,.ref 9 l.length]),ś (.arr aN 1 (rows.map di)),ś (.arr ap 1 (me acc)),ś (.arr aN 1 (nx.map di)),ś (.arr ap 1 (of.map nV)),ś (.mp ktI (ee nV 0 l)),ś (.arr ap 1 (l.map nV))]
theorem Ua{cls nx of q c p x y r}(hp:of[q]?=ś p)(hr:nx[p]?=ś r)(hx:r[c]?=ś x)(hy:cls[x]?=ś y):
 FnH ŷ eW [2,3,4] [nV q,nV c,.ptr 0 0,.ptr 1 0,.ptr 2 0] (f2H cls nx of) (nV y) (f2H cls nx of):=by
 refine yoH SN ?_;have h1:=(zAb.1 hp).1;have h2:=(zAb.1 hr).1;simp_all
theorem OA (cls) (nx) (of) (step) (D:Nat→Prop)
 (hst:∀ q c,D q→c < 95→∃ t,step q c=t∧D t∧FnH ŷ eW [2,3,4] [nV q,nV c,.ptr 0 0,.ptr 1 0,.ptr 2 0] (f2H cls nx of) (nV t) (f2H cls nx of))
 (most) (hm:most≤100000) (start) (h0:D start) (list) (rows) (hw:FN eqB step start most=ś (list,rows)):
 FnH ŷ v7 [1] [nV start,.fn (.func eW) [] [.ptr 0 0,.ptr 1 0,.ptr 2 0],nV most] (f2H cls nx of) (.tup [.ref 3 list.length,.ref 4 rows.length,.bool ť]) (f2R cls nx of list rows):=by
 refine yoH wy ?_
 obtain ⟨R,hR⟩:∃ R,R=(V.tup [.ref 3 list.length,.ref 4 rows.length,.bool ť]):=⟨_,rfl⟩
 rw [←hR]
 simp (disch:=omega) [-zAa]
 refine am [] 0 [] (by simp) (by simp) (by simp) (by simp) (Lc start) (by simp) λ_ _=>?_
 simp (disch:=omega) [-zAa]
 refine ah (λ(x:Nat × Nat × List Nat × List (List Nat))=>⟨[(1,.fn (.func eW) [] [.ptr 0 0,.ptr 1 0,.ptr 2 0]),(2,nV most),(9,.ptr 3 0),(10,.ref 4 x.2.2.2.length),(11,nV x.2.1)],aec cls nx of x.2.2.2 x.2.2.1⟩)
  (λx=>(∀ q∈x.2.2.1,D q)∧mA eqB x.2.2.1∧x.2.1≤x.2.2.1.length∧x.2.2.2.length=x.2.1∧x.2.2.1.length≤most + 1∧de eqB step most x.1 x.2.1 x.2.2.1 x.2.2.2=ś (list,rows)) (λx=>x.1) [.r 10 aN 1] _ (most + 2,0,[start],[]) rfl (by simp [aec,ee]) ⟨by simpa using h0,mA.one _,by simp,rfl,by simp,hw⟩ ?_
 rintro ⟨f,i,l,rw⟩ ⟨hd,hap,hil,hrl,hlm,hi⟩ N hN
 simp only at hd hap hil hrl hlm hi
 cases f with
 | zero=>simp [de] at hi
 | succ f=>
 simp only [de] at hi
 rcases zAi i l.length with hlt | hge
 · obtain ⟨q,hq⟩:=av hlt
   rw [hq] at hi
   simp only at hi
   have hqn:=hd q (zAc hq)
   obtain ⟨T,hT⟩:∃ T,T=aZ eqB (step q) 95 0 l:=⟨_,rfl⟩
   rw [←hT] at hi
   replace hi:=hid hi
   simp (disch:=omega) [-zAa,aec,hq]
   refine ah (λ(x:List Nat × List Nat × Nat × Nat)=>⟨[(1,.fn (.func eW) [] [.ptr 0 0,.ptr 1 0,.ptr 2 0]),(2,nV most),(9,.ptr 3 0),(10,.ref 4 rw.length),(11,nV i),(12,.ref 5 95),(13,nV x.2.2.1),(14,nV x.2.2.2),(39,.int .i64 95),(40,nV x.1.length)],XI cls nx of rw x.2.1 x.1⟩)
    (λx=>(∀ q∈x.2.1,D q)∧x.1.length≤95∧x.2.1[i]?=ś q∧x.2.1.length≤most + 1 + x.1.length∧pos eqB x.2.2.1 x.2.1=ś x.2.2.2∧(x.1++(aZ eqB (step q) (95 - x.1.length) x.1.length x.2.1).1,(aZ eqB (step q) (95 - x.1.length) x.1.length x.2.1).2)=T)
    (λx=>95 - x.1.length) [] _ ([],l,q,i) rfl (by simp [XI,E5]) ⟨hd,by simp,hq,by simp; omega,Ij hap hq,by simp [hT]⟩ ?_
   rintro ⟨acc,l',last,num⟩ ⟨hd',hc,hq',hl',hp,hi'⟩ M hM
   simp only at hd' hc hq' hl' hp hi'
   rcases zAi acc.length 95 with hc95 | hc95
   · obtain ⟨t,hr3,hr4,hr5⟩:=hst q acc.length hqn hc95
     obtain ⟨m',hm'⟩:∃ m',95 - acc.length=m' + 1:=⟨94 - acc.length,by omega⟩
     have hm2:95 - (acc.length + 1)=m':=by omega
     rw [hm'] at hi'
     simp only [aZ,hr3] at hi'
     have hset:=E4 hc95
     have hfl:=n9 (acc:=acc) (by omega)
     replace hi':=hid hi'
     have hil':=(zAb.1 hq').1
     simp (disch:=omega) [-zAa,XI,hq']
     refine am [2,3,4] 3 [0,1,2,6,7] (by simp) (by simp) (by simp) (by simp) (hr5) (by simp) λ_ _=>?_
     simp (disch:=omega) [-zAa,hq']
     have next:∀ (num':Nat) (last':Nat),pos eqB last' (c5 eqB l' t)=ś num'→num'=lj eqB l' t→∀ τ:St,τ.nrm [1,2,9,10,11,12,13,14,39,40]=⟨[(1,.fn (.func eW) [] [.ptr 0 0,.ptr 1 0,.ptr 2 0]),(2,nV most),(9,.ptr 3 0),(10,.ref 4 rw.length),(11,nV i),(12,.ref 5 95),(13,nV last'),(14,nV num'),(39,.int .i64 95),(40,.int .i64 ((acc.length:Int) + 1))],XI cls nx of rw (c5 eqB l' t) (acc++[num'])⟩→M τ:=by
      intro num' last' h1 h2 τ hτ
      have h3:=Iw l' t
      refine hM.out τ<|Nx.mk (acc++[num'],c5 eqB l' t,last',num') (by simpa using hτ) ⟨?_,by simp; omega,L1 hq',by simp; omega,h1,?_⟩ (by simp; omega)
      · intro x hx
        rcases xV hx with hx | rfl
        · exact hd' x hx
        · exact hr4
      · have:=hi'.out
        grind
     replace next:=hid next
     by_cases hlt2:t=last
     · subst hlt2
       obtain ⟨e1,e2⟩:=ki hp
       have hs:=hset num
       simp only [nV] at hs
       simp (disch:=omega) [-zAa,hfl,hs,oc hc95]
       exact next.out num t (by rw [e2]; exact hp) e1.symm _ (by simp [XI,e2])
     · simp (disch:=omega) [-zAa,hlt2]
       refine am [0] 1 [3,8,9] (by simp) (by simp) (by simp) (by simp) (zG l' t (by omega)) (by simp) λ_ _=>?_
       have hs:=hset (lj eqB l' t)
       simp only [nV] at hs
       simp (disch:=omega) [-zAa,hfl,hs,oc hc95]
       exact next.out _ t (Rd l' t) rfl _ (by simp [XI])
   · have hacc:acc.length=95:=by omega
     have h0:95 - acc.length=0:=by omega
     rw [h0] at hi'
     simp only [aZ,zCg] at hi'
     subst hi'
     have hil':=(zAb.1 hq').1
     have hi2:=hi.out
     simp only at hi2
     split at hi2
     · cases hi2
     · rename_i hle
       have hf:=Bl hacc
       have hfl:(me acc).length=95:=n9 (by omega)
       simp (disch:=omega) [-zAa,XI,hacc,hfl]
       refine hN.out _<|Nx.mk (f,i + 1,l',rw++[acc]) (by simp [aec,hf,hrl]) ⟨hd',?_,by simp only; omega,by simp [hrl],by simp only; omega,hi2⟩ (by simp only; omega)
       grind[fZ,eqB,step]
 simp_all[zBb,zAj,zCj,zAa,aec]
section
variable {α:Type}{f:α->V}
theorem xZ(h:∀a,aF (f a)=[]):∀l:List α,ax (l.map f)=[]
 |[]=>rfl
 |a::l=>by simp[ax,h a,xZ h l]
theorem Ca{hp}(h:∀a,pur hp (f a)=ś (f a)):∀l:List α,purs hp (l.map f)=ś (l.map f)
 |[]=>rfl
 |a::l=>by simp[purs,h a,Ca h l]
theorem B7{m}(h:∀a,ren m (f a)=f a):∀l:List α,fq m (l.map f)=l.map f
 |[]=>rfl
 |a::l=>by simp[fq,h a,B7 h l]
theorem D1{m}(h:∀a,bck m (f a)=f a):∀l:List α,so m (l.map f)=l.map f
 |[]=>rfl
 |a::l=>by simp[so,h a,D1 h l]
theorem n7(h:∀a,dA (f a)=ť):∀l:List α,dJ (l.map f)=ť
 |[]=>rfl
 |a::l=>by simp[dJ,h a,n7 h l]
theorem Ly{σ:St}(h:∀a,σ.cur (f a)=ť):∀l:List α,σ.curA (l.map f)=ť
 |[]=>rfl
 |a::l=>by simp[St.curA,h a,Ly h l]
end
theorem rep1:zAe 1 (ń:Option Ob)=[ń]:=rfl
theorem rep2:zAe 2 (ń:Option Ob)=[ń,ń]:=rfl
theorem rep3:zAe 3 (ń:Option Ob)=[ń,ń,ń]:=rfl
theorem rep4:zAe 4 (ń:Option Ob)=[ń,ń,ń,ń]:=rfl
theorem rep5:zAe 5 (ń:Option Ob)=[ń,ń,ń,ń,ń]:=rfl
theorem rep6:zAe 6 (ń:Option Ob)=[ń,ń,ń,ń,ń,ń]:=rfl
attribute [simp] rep1 rep2 rep3 rep4 rep5 rep6
theorem agV(n)(h1:0<=n)(h2:n<=65535):IntKind.u16.wrap n=n:=by
 grind[Go.IntKind.wrap_u16]
theorem akg{n}(h1:0<=n)(h2:n<=65535):L4 .u16 n=ś (.int .u16 n):=by grind[L4,agV]
attribute [simp high] akg
def c6(n:Nat):V:=.int .u16 n
def aV(n:Nat):V:=.int .u64 n
section
variable (l:List Nat)(hp:List (Option Ob))(m:List Nat)(σ:St)
@[simp] theorem abD:ax (l.map c6)=[]:=xZ (λ_=>rfl) l
@[simp] theorem ae0:purs hp (l.map c6)=ś (l.map c6):=Ca (λ_=>rfl) l
@[simp] theorem aeT:fq m (l.map c6)=l.map c6:=B7 (λ_=>rfl) l
@[simp] theorem agz:so m (l.map c6)=l.map c6:=D1 (λ_=>rfl) l
@[simp] theorem flats_u16:dJ (l.map c6)=true:=n7 (λ_=>rfl) l
@[simp] theorem curA_u16:σ.curA (l.map c6)=true:=Ly (λ_=>by simp[St.cur,St.cur0,c6,aF]) l
@[simp] theorem vidss_u64:ax (l.map aV)=[]:=xZ (λ_=>rfl) l
@[simp] theorem purs_u64:purs hp (l.map aV)=ś (l.map aV):=Ca (λ_=>rfl) l
@[simp] theorem rens_u64:fq m (l.map aV)=l.map aV:=B7 (λ_=>rfl) l
@[simp] theorem bcks_u64:so m (l.map aV)=l.map aV:=D1 (λ_=>rfl) l
@[simp] theorem flats_u64:dJ (l.map aV)=true:=n7 (λ_=>rfl) l
@[simp] theorem curA_u64:σ.curA (l.map aV)=true:=Ly (λ_=>by simp[St.cur,St.cur0,aV,aF]) l
end
theorem W9:∀(a b:List Nat),pm (a.map c6) (b.map c6)=decide (a=b)
 |[],[]=>rfl
 |[],_::_=>rfl
 |_::_,[]=>rfl
 |x::a,y::b=>by
   have:((x:Int)=y)↔x=y:=by omega
   simp[pm,c6,eqC,this];rw[W9 a b]
theorem W8:∀(a b:List Nat),pm (a.map aV) (b.map aV)=decide (a=b)
 |[],[]=>rfl
 |[],_::_=>rfl
 |_::_,[]=>rfl
 |x::a,y::b=>by
   have:((x:Int)=y)↔x=y:=by omega
   simp[pm,aV,eqC,this];rw[W8 a b]
theorem VJ:∀l:List Nat,b5 (l.map c6)=aU (zAe l.length (.i .u16))
 |[]=>rfl
 |x::l=>by simp[b5,VJ l,zBa,aU,c6,kOf]
theorem VI:∀l:List Nat,b5 (l.map aV)=aU (zAe l.length (.i .u64))
 |[]=>rfl
 |x::l=>by simp[b5,VI l,zBa,aU,aV,kOf]
def ktK:KT:=⟨ť,kz 96 (.i .u16)⟩
def kcV(k:List Nat):V:=.strct (k.map c6)
theorem aa7(a b):eqK (kcV a) (kcV b)=decide (a=b):=by simp[eqK,kcV,cl,W9]
theorem WH{k}(h:k.length=96):bH ktK (kcV k)=true:=by
 grind[bH,kcV,gD,cl,ktK,VJ]
theorem Dh(q)(hq:q.length=96):FnH ŷ jB [0] [.ptr 0 0,kcV q] (s7 ktK 96) (nV 0) (fH ktK kI 96 kcV [q]):=by
 refine yoH jP ?_;have hf:=WH hq;have ht:zCh 96 (q.map c6)=q.map c6:=zAg (by simp;omega)
 simp_all[kcV,ktK,zAa,s7,fH,lU,nq,ee]
theorem OV(l)(q)(hl:l.length<=1000000)(hq:q.length=96):FnH ŷ jB [0] [.ptr 0 0,kcV q] (fH ktK kI 96 kcV l) (nV (lj eqB l q)) (fH ktK kI 96 kcV (c5 eqB l q)):=by
 refine yoH jP ?_;have hf:=WH hq;have ht:zCh 96 (q.map c6)=q.map c6:=zAg (by simp;omega)
 simp only[kcV,ktK]at hf;have hm:=rL aa7 q l 0;cases hp:pos eqB q l with
 |some i=>
   rw[hp]at hm;replace hm:lU (.strct (q.map c6)) (ee kcV 0 l)=ś (.int .i64 (i:Int)):=by grind[nV,kcV]
   simp_all[ki,zAa,fH,ktK,kcV]
 |none=>
   rw[hp]at hm;replace hm:lU (.strct (q.map c6)) (ee kcV 0 l)=none:=by grind[nV,kcV]
   have hpt:=rK aa7 q l 0 hp;replace hpt:nq (.strct (q.map c6)) (.int .i64 (l.length:Int)) (ee kcV 0 l)=ee kcV 0 (l++[q]):=by grind[nV,kcV]
   obtain⟨h1,h2⟩:=sr hp;rw[h1,h2];simp(disch:=omega) [-zAa,fH,ktK,kcV,hm,hpt,hf,hq,ht]
theorem Zz:FnH ŷ AS [] [.nil 96] [] (.ptr 0 0) (s7 ktK 96):=by
 refine yoH A6 ?_;simp(disch:=omega) [-zAa];refine ah (λk:Nat=>⟨[(3,.ptr 0 0),(9,.nil 96),(10,.int .i64 0),(11,.int .i64 0)],s7 ktK 96⟩) (λk=>True) (λk=>0) [] _ 0 rfl (by simp[s7,ktK]) (by simp) ?_
 simp
def bY(f:Nat->V)(n:Nat)(acc:List Nat):List V:=(acc++zAe (n-acc.length) 0).map f
section
variable {f:Nat->V}{n:Nat}{acc:List Nat}
theorem yo(h:acc.length<=n):(bY f n acc).length=n:=by simp[bY];omega
theorem C5(h:acc.length<n):bY f n acc=acc.map f++f 0::(zAe (n-(acc.length+1)) 0).map f:=by
 obtain⟨m,hm⟩:∃m,n-acc.length=m+1:=⟨n-acc.length-1,by omega⟩
 grind[m,bY]
theorem Bn(k):bY f n (acc++[k])=acc.map f++f k::(zAe (n-(acc.length+1)) 0).map f:=by
 simp[bY]
theorem Fa(h:acc.length<n)(k):(bY f n acc).set acc.length (f k)=bY f n (acc++[k]):=by
 simp_all[C5,Bn,zBh]
theorem Fb(h:acc.length<n):(bY f n acc)[acc.length]?=ś (f 0):=by
 grind[C5,zBd]
theorem tw(h:acc.length=n):bY f n acc=acc.map f:=by simp[bY,h]
theorem Qt:zAe n (f 0)=bY f n []:=by simp[bY]
theorem Zk(h:acc.length<n):bY f n (acc++[0])=bY f n acc:=by rw[C5 h,Bn]
theorem C4(h:acc.length<n)(k):zCh acc.length (bY f n acc)++f k::List.drop (acc.length+1) (bY f n acc)=bY f n (acc++[k]):=by
 simp_all[C5,Bn,List.take_append_of_le_length,zAg,List.drop_append,List.drop_of_length_le]
end
section
variable (acc:List Nat)(n:Nat)(hp:List (Option Ob))(m:List Nat)
@[simp] theorem akd:ax (bY c6 n acc)=[]:=abD _
@[simp] theorem purs_fill:purs hp (bY c6 n acc)=ś (bY c6 n acc):=ae0 _ _
@[simp] theorem rens_fill:fq m (bY c6 n acc)=bY c6 n acc:=aeT _ _
@[simp] theorem bcks_fill:so m (bY c6 n acc)=bY c6 n acc:=agz _ _
end
def ckH(cls fin:List V)(l:List (List Nat)):List (Option Ob):=[ś (.arr ap 1 cls),ś (.box [.ref 3 0,.ref 4 l.length]),ś (.arr ap 1 fin),ś (.mp ktK (ee kcV 0 l)),ś (.arr kI 96 (l.map kcV))]
def ckE(cls fin:List V):List (Option Ob):=[ś (.arr ap 1 cls),ś (.box [.ref 3 0,.nil 96]),ś (.arr ap 1 fin),ś (.mp ktK [])]
def ck(cls fin:List V)(l:List (List Nat)):List (Option Ob):=if l=[]then ckE cls fin else ckH cls fin l
def cjH(cls fin key:List V)(l:List (List Nat)):List (Option Ob):=[ś (.arr ap 1 cls),ś (.box [.ref 4 0,.ref 5 l.length]),ś (.arr ap 1 fin),ś (.box key),ś (.mp ktK (ee kcV 0 l)),ś (.arr kI 96 (l.map kcV))]
def cjE(cls fin key:List V):List (Option Ob):=[ś (.arr ap 1 cls),ś (.box [.ref 4 0,.nil 96]),ś (.arr ap 1 fin),ś (.box key),ś (.mp ktK [])]
theorem O0(nx)(fi)(n)(hn:IZ n nx)(hnl:nx.length=n)(h0:0<n)(hn5:n<=10000)(hfi:fi.length=n)(cls)(hc:xn nx fi=ś cls):FnN ŷ MO [fN nx,TG fi] (di cls):=by
 refine FnN.of_imageE mixed NE.1 NE.2 rfl λho=>?_;clear ho;obtain⟨R,hR⟩:∃R,R=di cls:=⟨_,rfl⟩;rw[<-hR];simp(disch:=omega) [-zAa,hnl];obtain⟨bs,hbs⟩:∃bs,bs=fi.map b01:=⟨_,rfl⟩;have hbl:bs.length=n:=by simp[hbs,hfi]
 refine ah (λ(k:Nat)=>⟨[(0,fN nx),(5,.ref 0 n),(19,TG fi),(20,.int .i64 fi.length),(21,.int .i64 k)],[ś (.arr ap 1 (bY nV n (bs.take k)))]⟩) (λk=>k<=fi.length) (λk=>fi.length-k) [] _ 0 rfl (by simp[-zAa,<-Qt,hnl]) (by simp) ?_
 intro k hk N hN;rcases place fi k hk with⟨he,hd⟩|⟨hlt,x,hx,hd⟩
 ·subst he
  have ht:bs.take fi.length=bs:=zAg (by omega)
  have hfl:bY nV n bs=bs.map nV:=tw hbl;have hc':mh nx (n+2) bs 0=ś cls:=by rw[hbs,<-hnl];exact hc
  clear hN hd hc;simp(disch:=omega) [-zAa,ht,hfl];refine ah (λ(x:Nat×List Nat×Nat)=>⟨[(0,fN nx),(5,.ref 0 n),(8,nV x.2.2)],[ś (.arr ap 1 (x.2.1.map nV))]⟩) (λx=>x.2.1.length=n/\(∀v∈x.2.1,v<=10000)/\mh nx x.1 x.2.1 x.2.2=ś cls) (λx=>x.1) [] _ (n+2,bs,0) rfl (by simp) ⟨hbl,?_,hc'⟩ ?_
  ·intro v hv
   rw[hbs]at hv;obtain⟨b,_,rfl⟩:=zDg.1 hv;cases b<;>simp[b01]
  clear hbs hbl ht hfl hc' bs;rintro⟨f,cl,cnt⟩ ⟨hcl,hcv,hgo⟩ N hN;simp only at hcl hcv hgo;cases f with
  |zero=>simp[mh]at hgo
  |succ f=>
  simp only[mh,hnl]at hgo;obtain⟨T,hT⟩:∃T,T=aZ eqB (Aut.keyOf nx cl) n 0 []:=⟨_,rfl⟩;rw[<-hT]at hgo;replace hgo:=hid hgo;simp(disch:=omega) [-zAa];refine am [] 0 [] (by simp) (by simp) (by simp) (by simp) Zz (by simp) λ_ _=>?_
  simp(disch:=omega) [-zAa,hnl]
  refine ah (λ(x:List Nat×List (List Nat))=>⟨[(0,fN nx),(5,.ref 0 n),(8,nV cnt),(9,.ptr 1 0),(10,.ref 2 n),(35,fN nx),(36,.int .i64 n),(37,nV x.1.length)],ck (cl.map nV) (bY nV n x.1) x.2⟩)
   (λx=>x.1.length<=n/\x.2.length<=x.1.length/\(x.1=[]↔x.2=[])/\(x.1++(aZ eqB (Aut.keyOf nx cl) (n-x.1.length) x.1.length x.2).1,(aZ eqB (Aut.keyOf nx cl) (n-x.1.length) x.1.length x.2).2)=T)
   (λx=>n-x.1.length) [] _ ([],[]) rfl (by simp[-zAa,ck,ckE,<-Qt]) ⟨by simp,by simp,by simp,by simp[hT]⟩ ?_
  rintro⟨acc,l⟩ ⟨hal,hll,hnil,hi⟩ M hM;simp only at hal hll hnil hi;rcases zAi acc.length n with hlt|hge
  ·obtain⟨row,hrow⟩:=av (l:=nx) (k:=acc.length) (by omega)
   obtain⟨hr1,hr2⟩:=hn row (zAc hrow);obtain⟨c0,hc0⟩:=av (l:=cl) (k:=acc.length) (by omega)
   have hc0v:=hcv c0 (zAc hc0);have hfln:=yo (f:=nV) (n:=n) (acc:=acc) (by omega)
   obtain⟨m',hm'⟩:∃m',n-acc.length=m'+1:=⟨n-acc.length-1,by omega⟩
   have hm2:n-(acc.length+1)=m':=by omega
   rw[hm']at hi;simp only[aZ]at hi;replace hi:=hid hi
   have next:∀(τ:St),τ.nrm [0,5,8,9,10,35,36,37]=⟨[(0,fN nx),(5,.ref 0 n),(8,nV cnt),(9,.ptr 1 0),(10,.ref 2 n),(35,fN nx),(36,.int .i64 n),(37,nV (acc.length+1))],ck (cl.map nV) (bY nV n (acc++[lj eqB l (Aut.keyOf nx cl acc.length)])) (c5 eqB l (Aut.keyOf nx cl acc.length))⟩->M τ:=by
    intro τ hτ;have h3:=Iw l (Aut.keyOf nx cl acc.length);refine hM.out τ<|Nx.mk (acc++[lj eqB l (Aut.keyOf nx cl acc.length)],c5 eqB l (Aut.keyOf nx cl acc.length)) (by simpa using hτ) ⟨by simp;omega,by simp;omega,?_,?_⟩ (by simp;omega)
    ·simp only[List.append_eq_nil_iff,List.cons_ne_nil,and_false,false_iff]
     grind[c5,pos]
    ·have:=hi.out
     grind
   replace next:=hid next
   cases l with
   |nil=>
     have:acc=[]:=hnil.2 rfl;subst this;simp only[zBe]at hc0 hrow;simp(disch:=omega) [-zAa,ck,ckE,hrow,hc0,hcl,hfln];have hkey0:V.int .u16 (c0:Int)::zAe 95 (V.int .u16 0)=bY c6 96 [c0]:=by simp[-zAa,bY,c6]
     refine ah (λ(j:Nat)=>⟨[(0,fN nx),(5,.ref 0 n),(8,nV cnt),(9,.ptr 1 0),(10,.ref 2 n),(11,.int .i64 0),(13,.ptr 3 0),(35,fN nx),(36,.int .i64 n),(37,.int .i64 0),(48,di row),(49,.int .i64 95),(50,.int .i64 j)],cjE (cl.map nV) (bY nV n []) (bY c6 96 (c0::(row.take j).map λt=>(cl[t]?).getD 0))⟩) (λj=>j<=95) (λj=>95-j) [] _ 0 rfl (by simp[-zAa,cjE,hr1,hkey0]) (by simp) ?_
     intro j hj P hP;have hjl:(c0::(row.take j).map λt=>(cl[t]?).getD 0).length=j+1:=by simp;omega
     rcases zAi j 95 with hj95|hj95
     ·obtain⟨t,ht⟩:=av (l:=row) (k:=j) (by omega)
      obtain⟨v,hv⟩:=av (l:=cl) (k:=t) (by rw[hcl];have:=hr2 t (zAc ht);omega)
      have hvv:=hcv v (zAc hv);have hsp:=C4 (f:=c6) (n:=96) (acc:=c0::(row.take j).map λt=>(cl[t]?).getD 0) (by omega) v
      have hkl:=yo (f:=c6) (n:=96) (acc:=c0::(row.take j).map λt=>(cl[t]?).getD 0) (by omega)
      have htk:(c0::(row.take (j+1)).map λt=>(cl[t]?).getD 0)=(c0::(row.take j).map λt=>(cl[t]?).getD 0)++[v]:=by rw[bk ht];simp[hv]
      obtain⟨ac,hac⟩:∃ac,ac=(c0::(row.take j).map λt=>(cl[t]?).getD 0):=⟨_,rfl⟩;rw[<-hac]at hjl hsp hkl htk⊢;rw[hjl]at hsp;simp only[c6]at hsp;have htl:t<n:=hr2 t (zAc ht);have hjn:(1+(j:Int)).toNat=j+1:=by omega
      simp(disch:=omega) [-zAa,cjE,ht,hv,hcl,hkl,hjl,hjn,hsp];exact hP.out _<|Nx.mk (j+1) (by rw[htk];simp[cjE]) (by omega) (by omega)
     ·have hj0:j=95:=by omega
      subst hj0;have hrt:row.take 95=row:=zAg (by omega)
      obtain⟨key,hkey⟩:∃key,key=Aut.keyOf nx cl 0:=⟨_,rfl⟩;have hkd:(c0::row.map λt=>(cl[t]?).getD 0)=key:=by grind[CE]
      rw[hrt,hkd]at hjl⊢;have hkf:bY c6 96 key=key.map c6:=tw hjl;have htk:zCh 96 (key.map c6)=key.map c6:=zAg (by simp;omega)
      have hg:=Fb (f:=nV) (n:=n) (acc:=[]) (by simp;omega)
      have hs:=Fa (f:=nV) (n:=n) (acc:=[]) (by simp;omega) 0
      simp only[zBe,nV]at hg hs;rw[hkf];simp(disch:=omega) [-zAa,cjE,hjl,htk];refine am [0] 1 [1,4] (by simp) (by simp) (by simp[kcV]) (by simp) (Dh key hjl) (by simp) λ_ _=>?_
      replace hs:(bY nV n []).set 0 (.int .i64 0)=bY nV n [0]:=hs;simp(disch:=omega) [-zAa,hg,hs,hfln];have e1:lj eqB ([]:List (List Nat)) key=0:=rfl;have e2:c5 eqB ([]:List (List Nat)) key=[key]:=rfl;refine next.out _ ?_
      rw[zBe,<-hkey,e1,e2];simp[ck,ckH]
   |cons k0 l0=>
     simp(disch:=omega) [-zAa,ck,ckH,hrow,hc0,hcl,hfln];have hkey0:V.int .u16 (c0:Int)::zAe 95 (V.int .u16 0)=bY c6 96 [c0]:=by simp[-zAa,bY,c6]
     refine ah (λ(j:Nat)=>⟨[(0,fN nx),(5,.ref 0 n),(8,nV cnt),(9,.ptr 1 0),(10,.ref 2 n),(11,nV acc.length),(13,.ptr 3 0),(35,fN nx),(36,.int .i64 n),(37,nV acc.length),(48,di row),(49,.int .i64 95),(50,.int .i64 j)],cjH (cl.map nV) (bY nV n acc) (bY c6 96 (c0::(row.take j).map λt=>(cl[t]?).getD 0)) (k0::l0)⟩) (λj=>j<=95) (λj=>95-j) [] _ 0 rfl (by simp[-zAa,cjH,hr1,hkey0]) (by simp) ?_
     intro j hj P hP;have hjl:(c0::(row.take j).map λt=>(cl[t]?).getD 0).length=j+1:=by simp;omega
     rcases zAi j 95 with hj95|hj95
     ·obtain⟨t,ht⟩:=av (l:=row) (k:=j) (by omega)
      obtain⟨v,hv⟩:=av (l:=cl) (k:=t) (by rw[hcl];have:=hr2 t (zAc ht);omega)
      have hvv:=hcv v (zAc hv);have hsp:=C4 (f:=c6) (n:=96) (acc:=c0::(row.take j).map λt=>(cl[t]?).getD 0) (by omega) v
      have hkl:=yo (f:=c6) (n:=96) (acc:=c0::(row.take j).map λt=>(cl[t]?).getD 0) (by omega)
      have htk:(c0::(row.take (j+1)).map λt=>(cl[t]?).getD 0)=(c0::(row.take j).map λt=>(cl[t]?).getD 0)++[v]:=by rw[bk ht];simp[hv]
      obtain⟨ac,hac⟩:∃ac,ac=(c0::(row.take j).map λt=>(cl[t]?).getD 0):=⟨_,rfl⟩;rw[<-hac]at hjl hsp hkl htk⊢;rw[hjl]at hsp;simp only[c6]at hsp;have htl:t<n:=hr2 t (zAc ht);have hjn:(1+(j:Int)).toNat=j+1:=by omega
      simp(disch:=omega) [-zAa,cjH,ht,hv,hcl,hkl,hjl,hjn,hsp];exact hP.out _<|Nx.mk (j+1) (by rw[htk];simp[cjH]) (by omega) (by omega)
     ·have hj0:j=95:=by omega
      subst hj0;have hrt:row.take 95=row:=zAg (by omega)
      obtain⟨key,hkey⟩:∃key,key=Aut.keyOf nx cl acc.length:=⟨_,rfl⟩;have hkd:(c0::row.map λt=>(cl[t]?).getD 0)=key:=by grind[CE]
      rw[hrt,hkd]at hjl⊢;have hkf:bY c6 96 key=key.map c6:=tw hjl;have htk:zCh 96 (key.map c6)=key.map c6:=zAg (by simp;omega)
      have hg:=Fb (f:=nV) (n:=n) (acc:=acc) (by omega)
      have hs:=Fa (f:=nV) (n:=n) (acc:=acc) (by omega) (lj eqB (k0::l0) key)
      simp only[nV]at hg hs;rw[hkf];simp(disch:=omega) [-zAa,cjH,hjl,htk];refine am [0] 1 [1,4,5] (by simp) (by simp) (by simp[kcV]) (by simp) (OV (k0::l0) key (by omega) hjl) (by simp) λ_ _=>?_
      simp(disch:=omega) [-zAa,hg,hs,hfln];refine next.out _ ?_
      rw[<-hkey];obtain⟨k1,l1,hkl1⟩:∃k1 l1,c5 eqB (k0::l0) key=k1::l1:=by unfold c5;split<;>exact⟨_,_,rfl⟩
      simp[ck,ckH,hkl1]
  ·have hacc:acc.length=n:=by omega
   have h00:n-acc.length=0:=by omega
   rw[h00]at hi;simp only[aZ,zCg]at hi;have hne:l≠[]:=λh=>by simp_all
   obtain⟨k1,lr,rfl⟩:∃k1 lr,l=k1::lr:=by cases l with|nil=>simp_all|cons a b=>exact⟨a,b,rfl⟩
   have hff:bY nV n acc=acc.map nV:=tw hacc;have hgo:=hgo.out;rw[<-hi]at hgo;simp only at hgo;split at hgo
   ·simp_all[zAj,zAa,ck,ckH,n7]
   ·rename_i hne2
    have hce:¬((lr.length:Int)+1=cnt):=by simp at hne2;omega
    have hlen2:=AF (e:=eqB) (Aut.keyOf nx cl) n 0 [];have hltv:=λv=>I3 (e:=eqB) dV (Aut.keyOf nx cl) n [] 0 (v:=v);rw[<-hT,<-hi]at hlen2;rw[<-hT,<-hi]at hltv;simp only[zBe,zCd]at hlen2;simp(disch:=omega) [-zAa,ck,ckH,hacc,hff,hce];exact hN.out _<|Nx.mk (f,acc,(k1::lr).length) (by simp) ⟨hacc,λv hv=>by grind,hgo⟩ (by simp)
 ·have hak:(bs.take k).length=k:=by simp;omega
  have hbx:bs[k]?=ś (b01 x):=by simp[hbs,hx]
  have hl:=yo (f:=nV) (n:=n) (acc:=bs.take k) (by omega)
  have hg:=Fb (f:=nV) (n:=n) (acc:=bs.take k) (by omega)
  have hs:=Fa (f:=nV) (n:=n) (acc:=bs.take k) (by omega)
  rw[hak]at hg hs;have h1:=hs (b01 x);rw[<-bk hbx]at h1;simp only[nV]at hg;simp(disch:=omega) [-zAa,hx];refine BrK.mk (λh=>?_) (λh=>?_)
  ·subst h
   replace h1:(bY nV n (bs.take k)).set k (.int .i64 1)=bY nV n (bs.take (k+1)):=h1;simp(disch:=omega) [-zAa,hg,hl,h1];exact hN.out _<|Nx.mk (k+1) (by simp) (by omega) (by omega)
  ·subst h
   simp(disch:=omega) [-zAa];refine hN.out _<|Nx.mk (k+1) (by simp_all[bk,b01,Zk]) (by omega) (by omega)
end Go.Abs
end
section
set_option maxHeartbeats 1000000
set_option maxRecDepth 100000
namespace Go.Abs
open Go.Proofs Go.Aut
attribute [-simp] getElem?_pos zCb zBi
def chDK(Φ:Ctr)(d:Option Nat)(f:FuncId)(σ:St)(K:St->Prop)(vs:List V):Prop:=xY Φ d f vs K σ
theorem agn{Φ d f σ K vs}:chDK Φ d f σ K vs=xY Φ d f vs K σ:=propext Iff.rfl
theorem agJ{Φ d f σ K xs}:an Φ d (.callH f xs) K σ=oM (σ.evs xs) (chDK Φ d f σ K):=by
 simp only[an,oM];cases σ.evs xs<;>rfl
attribute [simp] agn agJ
theorem iI{Φ σ K d}(ps)(q)(m){f vs us H H' r}(hc:σ.curs (c9 vs ps)=ť)(hl:ir σ.h (c9 vs ps) vs=(q,m))(hu:fq m vs=us)(hH:kN σ.h m m=H)
 (h:Φ.e f ps us H r H') (hk:kin q H H'=ť) (k:ak6 σ d K q m r H'):xY Φ d f vs K σ:=by
 refine⟨ps,hc,r,H',?_,?_,?_⟩
 ·rw[hl,hH];exact hk
 ·simp_all
 ·rw[hl];exact k
def j2{α:Type}(f:α->V)(d:α)(n:Nat)(acc:List α):List V:=(acc++zAe (n-acc.length) d).map f
section
variable {α:Type}{f:α->V}{d:α}{n:Nat}{acc:List α}
theorem E8(h:acc.length<=n):(j2 f d n acc).length=n:=by simp[j2];omega
theorem WL(h:acc.length<n):j2 f d n acc=acc.map f++f d::(zAe (n-(acc.length+1)) d).map f:=by
 obtain⟨m,hm⟩:∃m,n-acc.length=m+1:=⟨n-acc.length-1,by omega⟩
 grind[m,j2]
theorem Zj(k):j2 f d n (acc++[k])=acc.map f++f k::(zAe (n-(acc.length+1)) d).map f:=by
 simp[j2]
theorem E6(h:acc.length<n)(k):(j2 f d n acc).set acc.length (f k)=j2 f d n (acc++[k]):=by
 simp_all[WL,Zj,zBh]
theorem E9(h:acc.length<n):(j2 f d n acc)[acc.length]?=ś (f d):=by
 grind[WL,zBd]
theorem Bm(h:acc.length=n):j2 f d n acc=acc.map f:=by simp[j2,h]
theorem E7:zAe n (f d)=j2 f d n []:=by simp[j2]
end
theorem D9{K}[DecidableEq K]{step}{start}{most}{l}{rows}{D:K->Prop}(hD:∀q c,D q->c<95->D (step q c))(h0:D start)(h:FN eqB step start most=ś (l,rows)):
 rows.length=l.length/\0<l.length/\l[0]?=ś start/\(∀q∈l,D q)/\IZ l.length rows/\l.Nodup:=by
 obtain⟨h3,t,h4⟩:=om dV hD _ _ _ _ _ _ (sA h0) h;have hpos:0<l.length:=by rw[h4];simp
 refine⟨h3.len,hpos,by simp[h4],h3.dom,?_,jf h3.apart⟩
 have:=(BL (good:=λ_=>ť) h3 hpos).1.rows;simpa[Aut.n,h3.len]using this
theorem ZD{a:Aut}(ha:a.ok)(hn:a.n<=10000){b}(hb:WA a.next a.final=ś b):Fn ŷ Yz [fN a.next,TG a.final] (.strct (Aut.c b)):=by
 refine yoE YT ?_;unfold WA at hb;split at hb
 ·cases hb
 rename_i list nx hw;split at hb
 ·cases hb
 rename_i cls hc;split at hb
 ·cases hb
 rename_i l2 rows hw2;simp only[zAj]at hb;subst hb;obtain⟨hl1,hl2,hl3,hl4,hl5,hl6⟩:=D9 (D:=λq=>q<a.n) (λq c hq hc=>ha.lt hq hc) ha.pos hw;have hnl:a.next.length=a.n:=rfl;have hln:=cU a.n list hl6 hl4;have hfl:a.final.length=a.n:=ha.fin;obtain⟨ends,hends⟩:∃ends,ends=list.map (fin a.final):=⟨_,rfl⟩;have hel:ends.length=list.length:=by simp[hends]
 rw[<-hends]at hc⊢;obtain⟨m,hm⟩:∃m,m=list.length:=⟨_,rfl⟩;rw[<-hm]at hl1 hl2 hl5 hln hel hw2⊢;obtain⟨o,ho⟩:∃o,o=Ma 0 cls (zAe m 0):=⟨_,rfl⟩;rw[<-ho]at hw2⊢;obtain⟨R,hR⟩:∃R,R=V.strct (Aut.c ⟨rows,l2.map λc=>fin ends (bh o c)⟩):=⟨_,rfl⟩;rw[<-hR];simp(disch:=omega) [-zAa,hnl];refine am [1] 1 [0] (by simp) (by simp) (by simp) (by simp) (OB a.next a.n ha.rows rfl a.n (by omega) 0 ha.pos list nx hw) (by simp) λ_ _=>?_
 simp(disch:=omega) [-zAa,hnl,<-hm,hl1]
 refine ah (λ(k:Nat)=>⟨[(1,TG a.final),(2,.ptr 0 0),(4,.ptr 1 0),(5,.ref 2 m),(7,.ref 3 m),(30,.ref 2 m),(31,.int .i64 m),(32,.int .i64 k)],[ś (.box [.ref 4 m]),ś (.box [.nil 1,.nil 1]),ś (.arr ap 1 (list.map nV)),ś (.arr aH 1 (j2 V.bool ğ m (ends.take k))),ś (.arr aN 1 (nx.map di))]⟩)
  (λk=>k<=m) (λk=>m-k) [] _ 0 rfl (by simp_all[zAa,E7]) (by simp) ?_
 intro k hk N hN;rcases zAi k m with hlt|hge
 ·obtain⟨q,hq⟩:=av (l:=list) (k:=k) (by omega)
  have hqn:=hl4 q (zAc hq);obtain⟨b,hb⟩:=av (l:=a.final) (k:=q) (by omega)
  have he:ends[k]?=ś b:=by grind[fin]
  have hak:(ends.take k).length=k:=by simp;omega
  have hl:=E8 (f:=V.bool) (d:=ğ) (n:=m) (acc:=ends.take k) (by omega)
  have hg:=E9 (f:=V.bool) (d:=ğ) (n:=m) (acc:=ends.take k) (by omega)
  have hs:=E6 (f:=V.bool) (d:=ğ) (n:=m) (acc:=ends.take k) (by omega) b
  rw[hak]at hg hs;rw[<-bk he]at hs;simp(disch:=omega) [-zAa,hq,hb,hg,hs,hl,<-hm];exact hN.out _<|Nx.mk (k+1) (by simp) (by omega) (by omega)
 ·have hkm:k=m:=by omega
  subst hkm;have ht:ends.take k=ends:=zAg (by omega)
  have hff:j2 V.bool ğ k ends=ends.map V.bool:=Bm hel;clear hN;simp(disch:=omega) [-zAa,ht,hff,<-hm];have hbok:(Aut.mk nx ends).ok:=⟨by grind[Aut.n],by grind[Aut.n],by grind[Aut.n]⟩
  have hC:IsCls ⟨nx,ends⟩ cls:=by
   grind[zI,xn]
  have hcl:cls.length=k:=by rw[hC.len];exact hl1
  have hcm:∀v∈cls,v<k:=λv hv=>by have:=hC.lt v hv;grind[Aut.n]
  refine fD (O0 nx ends k hl5 hl1 hl2 (by omega) hel cls hc) λ_=>?_
  simp(disch:=omega) [-zAa,<-hm]
  refine ah (λ(x:Nat×List Nat)=>⟨[(2,.ptr 0 0),(4,.ptr 1 0),(7,.ref 2 k),(10,.ptr 3 0),(11,.ptr 4 0),(51,di cls),(52,.int .i64 k),(53,nV x.1)],[ś (.box [.ref 5 k]),ś (.box [.nil 1,.nil 1]),ś (.arr aH 1 (ends.map V.bool)),ś (.box [di cls]),ś (.box [.ref 6 k]),ś (.arr aN 1 (nx.map di)),ś (.arr ap 1 (x.2.map nV))]⟩)
   (λx=>x.1<=k/\x.2.length=k/\Ma x.1 (cls.drop x.1) x.2=o) (λx=>k-x.1) [] _ (0,zAe k 0) rfl (by simp[-zAa,hcl]) ⟨by simp,by simp,by simp[ho]⟩ ?_
  rintro⟨j,oo⟩ ⟨hj,hol,hi⟩ N hN;simp only at hj hol hi;rcases place cls j (by omega)with⟨he,hd⟩|⟨hlt,c,hx,hd⟩<;>rw[hd]at hi
  ·simp only[Ma]at hi
   clear hN;subst hi;obtain⟨c0,hc0⟩:=av (l:=cls) (k:=0) (by omega)
   have hst:∀c s,c∈cls->s<95->∃t,bh cls (dl nx (bh oo c) s)=t/\t∈cls/\FnH ŷ eW [2,3,4] [nV c,nV s,.ptr 0 0,.ptr 1 0,.ptr 2 0] (f2H cls nx oo) (nV t) (f2H cls nx oo):=by
    intro c s hcc hs;obtain⟨p,hp1,hp2⟩:=yi cls (zAe k 0) cls 0 (λj c hj=>by simpa using hj) (λc hc=>by simp_all) c (.inl hcc)
    rw[<-ho]at hp1;have hpl:=(zAb.1 hp2).1;obtain⟨r,x,g1,g2,g3,g4⟩:=hl5.dl (q:=p) (c:=s) (by omega) hs
    obtain⟨y,hy⟩:=av (l:=cls) (k:=x) (by omega)
    refine⟨y,?_,zAc hy,Ua hp1 g1 g2 hy⟩;grind[bh]
   have hc0m:=zAc hc0;have hg0:bh cls 0=c0:=by simp[bh,hc0]
   rw[hg0]at hw2;obtain⟨gl1,gl2,gl3,gl4,gl5,gl6⟩:=D9 (D:=λc=>c∈cls) (λq c hq hc=>by simp_all) hc0m hw2
   have hl2n:=cU k l2 gl6 λx hx=>hcm x (gl4 x hx);simp(disch:=omega) [-zAa,he,hol,hcl,hc0];refine iI [1] 3 [3,0,4,5,6] (by simp) (by simp) (by simp[hol]) (by simp[hl1,hol]) (OA cls nx oo _ (λc=>c∈cls) hst k (by omega) c0 hc0m l2 rows hw2) (by simp) ?_
   simp(disch:=omega) [-zAa,hol]
   refine ah (λ(t:Nat)=>⟨[(4,.ptr 0 0),(7,.ref 1 k),(11,.ptr 2 0),(16,.ptr 3 0),(76,.ref 4 l2.length),(77,.int .i64 l2.length),(78,nV t)],[ś (.box [.nil 1,.nil 1]),ś (.arr aH 1 (ends.map V.bool)),ś (.box [.ref 5 k]),ś (.box [.ref 6 rows.length,.ref 7 t]),ś (.arr ap 1 (l2.map nV)),ś (.arr ap 1 (oo.map nV)),ś (.arr aN 1 (rows.map di)),ś (.arr aH 1 (((l2.take t).map λc=>fin ends (bh oo c)).map V.bool))]⟩)
    (λt=>t<=l2.length) (λt=>l2.length-t) [.b 11 1 aH 1] _ 0 (by simp;rfl) (by simp) (by simp) ?_
   intro t ht N hN;rcases place l2 t ht with⟨he2,hd2⟩|⟨hlt2,c,hc2,hd2⟩
   ·have htk:l2.take t=l2:=zAg (by omega)
    subst he2;simp(disch:=omega) [-zAa,htk,hR];rfl
   ·have hcc:=gl4 c (zAc hc2)
    obtain⟨p,hp1,hp2⟩:=yi cls (zAe k 0) cls 0 (λj c hj=>by simpa using hj) (λc hc=>by simp_all) c (.inl hcc)
    rw[<-ho]at hp1;have hpl:=(zAb.1 hp2).1;have hcl2:=(zAb.1 hp1).1;obtain⟨b,hb⟩:=av (l:=ends) (k:=p) (by omega)
    have hfb:fin ends (bh oo c)=b:=by simp[bh,hp1,fin,hb]
    have hsn:=bk hc2;have htl:(l2.take t).length=t:=by simp;omega
    simp(disch:=omega) [-zAa,hc2,hol,hp1,hel,hb,htl];exact hN.out _<|Nx.mk (t+1) (by rw[hsn];simp[hfb]) (by omega) (by omega)
  ·simp only[Ma]at hi
   have hck:=hcm c (zAc hx);obtain⟨y,hy⟩:=av (l:=oo) (k:=c) (by omega)
   replace hi:=hid hi;simp(disch:=omega) [-zAa,hx,hol,hy,hcl];exact hN.out _<|Nx.mk (j+1,oo.set c j) (by simp) ⟨by simp only;omega,by simp[hol],hi.out⟩ (by simp only;omega)
end Go.Abs
end
