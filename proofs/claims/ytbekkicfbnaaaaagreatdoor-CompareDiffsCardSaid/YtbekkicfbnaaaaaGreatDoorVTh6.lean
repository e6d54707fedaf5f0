/- The least word by which something good is reached, plainly. No condition. -/
import Derived.Test.YtbekkicfbnaaaaaGreatDoorVTh1
import Derived.Test.YtbekkicfbnaaaaaGreatDoorVTh4
set_option linter.all false open List renaming reduceReplicate→zAa,getElem?_eq_some_iff→zAb,getElem?_append_left→zAc,getElem?_append_right→zAe,getElem?_eq_getElem→zAg,getElem?_reverse→zAh,mem_of_getElem?→zAi,getElem?_set_ne→zAj,map_reverse→zBc,getElem?_cons_zero→zBd,getElem?_set_self→zBe,take_of_length_le→zBg,getElem?_take→zBh,getElem?_drop→zBi,foldl_append→zBj,ext_getElem?→zCb,getElem?_map→zCc,mem_append→zCd,nodup_cons→zCe,map_cons→zCf,map_map→zCg,mem_map→zCh
open Nat renaming lt_or_ge→zAd,sub_self→zBa,le_refl→zBf
open Option.some renaming injEq→zAf
open Option renaming getD_some→zBb,not_isSome→zCa
open Iff renaming rfl→zCi
open Prod renaming ext→zCj open Option renaming some→ś open Go.Proofs.Tryz renaming prog→ŷ
section
namespace Go.Aut
def yG:List Nat->List Nat->Prop
 |a::u,b::v=>a<b\/(a=b/\yG u v)
 |_,_=>False
def wlt(u v:List Nat):Prop:=u.length<v.length\/(u.length=v.length/\yG u v)
theorem Gi:∀u:List Nat,¬yG u u
 |[],h=>h
 |a::u,h=>by
   rcases h with h|⟨_,h⟩
   ·omega
   ·exact Gi u h
theorem JQ:∀{u v w:List Nat},yG u v->yG v w->yG u w
 |a::u,b::v,c::w,h,h'=>by
   simp only[yG]at h h'⊢;rcases h with h|⟨h,h2⟩
   ·rcases h' with h'|⟨h',_⟩
    ·left;omega
    ·left;omega
   ·rcases h' with h'|⟨h',h3⟩
    ·left;omega
    ·right;exact⟨by omega,JQ h2 h3⟩
 |[],_,_,h,_=>by simp[yG]at h
 |_::_,[],_,h,_=>by simp[yG]at h
 |_::_,_::_,[],_,h=>by simp[yG]at h
theorem P5:∀{u v:List Nat}(a b:Nat),u.length=v.length->yG u v->yG (u++[a]) (v++[b])
 |x::u,y::v,a,b,hl,h=>by
   simp only[List.length_cons,Nat.add_right_cancel_iff]at hl;simp only[yG,List.cons_append]at h⊢;rcases h with h|⟨h,h2⟩
   ·exact .inl h
   ·exact .inr ⟨h,P5 a b hl h2⟩
 |[],_,_,_,_,h=>by simp[yG]at h
 |_::_,[],_,_,hl,_=>by simp at hl
theorem P6:∀(u:List Nat){a b:Nat},a<b->yG (u++[a]) (u++[b])
 |[],_,_,h=>.inl h
 |x::u,_,_,h=>.inr ⟨rfl,P6 u h⟩
theorem IE(u):¬wlt u u:=λh=>by
 rcases h with h|⟨_,h⟩
 ·omega
 ·exact Gi u h
theorem xX{u v w}(h:wlt u v)(h':wlt v w):wlt u w:=by
 rcases h with h|⟨h,h2⟩
 ·rcases h' with h'|⟨h',_⟩
  ·left;omega
  ·left;omega
 ·rcases h' with h'|⟨h',h3⟩
  ·left;omega
  ·right;grind[JQ]
theorem UD{u v}(a b)(h:wlt u v):wlt (u++[a]) (v++[b]):=by
 rcases h with h|⟨h,h2⟩
 ·left;simp;omega
 ·right;grind[P5]
theorem ID(u){a b}(h:a<b):wlt (u++[a]) (u++[b]):=.inr ⟨by simp,P6 u h⟩
def wle(u v:List Nat):Prop:=u=v\/wlt u v
theorem XH{u v w}(h:wle u v)(h':wlt v w):wlt u w:=by
 rcases h with rfl|h
 ·exact h'
 ·exact xX h h'
theorem D8{u v w}(h:wle u v)(h':wle v w):wle u w:=by
 rcases h' with rfl|h'
 ·exact h
 ·exact .inr (XH h h')
theorem aeb{u v}(a)(h:wle u v):wle (u++[a]) (v++[a]):=by
 rcases h with rfl|h
 ·exact .inl rfl
 ·exact .inr (UD a a h)
section
variable {K:Type}[DecidableEq K]
def AU(f:Nat->K)(w:List Nat):Nat->Nat->List K->List (List Nat)->List K×List (List Nat)
 |0,_,l,ws=>(l,ws)
 |m+1,c,l,ws=>if(pos eqB (f c) l).isSome=true then AU f w m (c+1) l ws else AU f w m (c+1) (l++[f c]) (ws++[w++[c]])
def gN(step:K->Nat->K)(good:K->Bool):Nat->Nat->List K->List (List Nat)->Option (Option (List Nat))
 |0,_,_,_=>none
 |f+1,i,l,ws=>match l[i]? with
   |none=>ś none
   |some q=>if good q=true then ś (ś ((ws[i]?).getD []))else gN step good f (i+1) (AU (step q) ((ws[i]?).getD []) 95 0 l ws).1 (AU (step q) ((ws[i]?).getD []) 95 0 l ws).2
structure LInv (step:K->Nat->K) (start:K) (D:K->Prop) (i c:Nat) (l:List K) (ws:List (List Nat)):Prop where
 len:ws.length=l.length
 dom:∀x∈l,D x
 first:l[0]?=ś start/\ws[0]?=ś []
 run:∀(k:Nat)(q:K)(w:List Nat),l[k]?=ś q->ws[k]?=ś w->w.foldl step start=q/\∀d∈w,d<95
 nodup:l.Nodup
 sorted:∀(j k:Nat)(u v:List Nat),j<k->ws[j]?=ś u->ws[k]?=ś v->wlt u v
 bound:∀(k:Nat)(u w:List Nat),ws[k]?=ś u->ws[i]?=ś w->wlt u (w++[c])
 done:∀(k d:Nat)(q:K)(w:List Nat),(k<i\/(k=i/\d<c))->d<95->l[k]?=ś q->ws[k]?=ś w->∃(j:Nat)(u:List Nat),l[j]?=ś (step q d)/\ws[j]?=ś u/\wle u (w++[d])
variable {step:K->Nat->K}{start:K}{D:K->Prop}
theorem LInv.one{c i l ws}(h:LInv step start D i c l ws)(hD:∀q c,D q->c<95->D (step q c))(hc:c<95){q w}(hq:l[i]?=ś q)(hw:ws[i]?=ś w):
 LInv step start D i (c+1) (if(pos eqB (step q c) l).isSome=true then l else l++[step q c]) (if(pos eqB (step q c) l).isSome=true then ws else ws++[w++[c]]):=by
 have hil:=(zAb.1 hq).1;cases hp:pos eqB (step q c) l with
 |some j=>
   simp only[Option.isSome_some,if_true];obtain⟨x,hx,hxe⟩:=vO hp;have:=tF.1 hxe;subst this;obtain⟨u,hu⟩:∃u,ws[j]?=ś u:=⟨_,zAg (by rw[h.len];exact(zAb.1 hx).1)⟩
   refine⟨h.len,h.dom,h.first,h.run,h.nodup,h.sorted,λk u' w' hk hw'=>?_,λk d q' w' hkd hd hq' hw'=>?_⟩
   ·exact xX (h.bound k u' w' hk hw') (ID _ (by omega))
   ·rcases hkd with hkd|⟨rfl,hkd⟩
    ·exact h.done k d q' w' (.inl hkd) hd hq' hw'
    ·rcases zAd d c with hdc|hdc
     ·exact h.done k d q' w' (.inr ⟨rfl,hdc⟩) hd hq' hw'
     ·have:d=c:=by omega
      subst this;rw[hq]at hq';cases hq';rw[hw]at hw';cases hw';exact⟨j,u,hx,hu,.inr (h.bound j u w hu hw)⟩
 |none=>
   simp only[Option.isSome_none,Bool.false_eq_true,if_false];have hnm:step q c ∉ l:=λhm=>by grind[Cc,eqB]
   have app:∀{α:Type}{l:List α}{x y:α}{k:Nat},(l++[x])[k]?=ś y->(k<l.length/\l[k]?=ś y)\/(k=l.length/\y=x):=λ{α l x y k} h=>by
    grind
   have ext:∀{α:Type}{l:List α}{x y:α}{k:Nat},l[k]?=ś y->(l++[x])[k]?=ś y:=λ{α l x y k} h=>by
    grind
   refine⟨by simp[h.len],λx hx=>?_,⟨ext h.first.1,ext h.first.2⟩,λk q' w' hq' hw'=>?_,?_,λj k u v hjk hu hv=>?_,λk u' w' hk hw'=>?_,λk d q' w' hkd hd hq' hw'=>?_⟩
   ·rcases zCd.1 hx with hx|hx
    ·exact h.dom x hx
    ·simp at hx;subst hx;exact hD _ _ (h.dom q (zAi hq)) hc
   ·rcases app hq' with⟨h1,h2⟩|⟨h1,h2⟩
    ·rcases app hw' with⟨h3,h4⟩|⟨h3,h4⟩
     ·exact h.run k q' w' h2 h4
     ·have:=h.len;omega
    ·rcases app hw' with⟨h3,h4⟩|⟨h3,h4⟩
     ·have:=h.len;omega
     ·subst h2 h4
      obtain⟨g1,g2⟩:=h.run i q w hq hw;refine⟨by rw[zBj,g1];rfl,λd hd=>?_⟩
      grind
   ·rw[List.nodup_append]
    exact⟨h.nodup,by simp,λa ha b hb=>by grind⟩
   ·rcases app hv with⟨h3,h4⟩|⟨h3,h4⟩
    ·rcases app hu with⟨h1,h2⟩|⟨h1,h2⟩
     ·exact h.sorted j k u v hjk h2 h4
     ·omega
    ·rcases app hu with⟨h1,h2⟩|⟨h1,h2⟩
     ·subst h4;exact h.bound j u w h2 hw
     ·omega
   ·rcases app hw' with⟨h1,h2⟩|⟨h1,h2⟩
    ·rw[hw]at h2;cases h2
     rcases app hk with⟨h3,h4⟩|⟨h3,h4⟩
     ·exact xX (h.bound k u' w h4 hw) (ID _ (by omega))
     grind[ID]
    ·have:=h.len;omega
   ·have hkl:k<l.length:=by omega
    rcases app hq' with⟨_,h2⟩|⟨h1,_⟩
    ·rcases app hw' with⟨_,h4⟩|⟨h3,_⟩
     ·by_cases hnew:k=i/\d=c
      ·obtain⟨rfl,rfl⟩:=hnew
       rw[hq]at h2;cases h2;rw[hw]at h4;cases h4;exact⟨l.length,w++[d],by simp,by rw[<-h.len];simp,.inl rfl⟩
      ·obtain⟨j,u,g1,g2,g3⟩:=h.done k d q' w' (by omega) hd h2 h4
       grind
     ·have:=h.len;omega
    ·omega
theorem Cw(hD:∀q c,D q->c<95->D (step q c)){i q w}:∀(m c:Nat)(l:List K)(ws:List (List Nat)),LInv step start D i c l ws->c+m<=95->l[i]?=ś q->ws[i]?=ś w->
 LInv step start D i (c+m) (AU (step q) w m c l ws).1 (AU (step q) w m c l ws).2/\∃t,(AU (step q) w m c l ws).1=l++t
 |0,c,l,ws,h,_,_,_=>⟨h,[],by simp[AU]⟩
 |m+1,c,l,ws,h,hm,hq,hw=>by
   have h1:=h.one hD (by omega) hq hw
   simp only[AU];have e:c+(m+1)=c+1+m:=by omega
   rw[e];split
   ·rename_i hp
    rw[if_pos hp,if_pos hp]at h1;exact Cw hD m (c+1) l ws h1 (by omega) hq hw
   ·rename_i hp
    rw[if_neg hp,if_neg hp]at h1;obtain⟨g1,t,g2⟩:=Cw hD m (c+1) _ _ h1 (by omega) (by rw[zAc (zAb.1 hq).1];exact hq) (by rw[zAc (zAb.1 hw).1];exact hw)
    simp_all
theorem LInv.next{i l ws}(h:LInv step start D i 95 l ws)(hi:i<l.length):LInv step start D (i+1) 0 l ws:=by
 obtain⟨w,hw⟩:∃w,ws[i]?=ś w:=⟨_,zAg (by rw[h.len];exact hi)⟩
 refine⟨h.len,h.dom,h.first,h.run,h.nodup,h.sorted,λk u v hk hv=>?_,λk d q' w' hkd hd hq' hw'=>?_⟩
 ·exact xX (h.bound k u w hk hw) (UD _ _ (h.sorted i (i+1) w v (by omega) hw hv))
 ·refine h.done k d q' w' ?_ hd hq' hw'
  omega
def abo(step:K->Nat->K)(start:K)(good:K->Bool):Option (List Nat)->Prop
 |none=>∀v:List Nat,(∀c∈v,c<95)->good (v.foldl step start)=false
 |some w=>(∀c∈w,c<95)/\good (w.foldl step start)=true/\∀v:List Nat,(∀c∈v,c<95)->good (v.foldl step start)=true->¬wlt v w
theorem Ep{i l ws}(h:LInv step start D i 0 l ws)(B:List Nat->Prop)(hB:∀(k:Nat)(w v:List Nat),l.length<=k\/i<=k->ws[k]?=ś w->wle w v->¬B v)(hpre:∀v c,B (v++[c])->B v):
 ∀(n:Nat)(v:List Nat),v.length=n->(∀c∈v,c<95)->B v->∃(k:Nat)(w:List Nat),l[k]?=ś (v.foldl step start)/\ws[k]?=ś w/\wle w v
 |0,v,hn,_,hb=>by
   have:v=[]:=List.eq_nil_of_length_eq_zero hn;subst this;exact⟨0,[],h.first.1,h.first.2,.inl rfl⟩
 |n+1,v,hn,hv,hb=>by
   obtain⟨u,d,rfl⟩:∃u d,v=u++[d]:=⟨v.dropLast,v.getLast (by grind),(List.dropLast_concat_getLast _).symm⟩
   obtain⟨k,w,h1,h2,h3⟩:=Ep h B hB hpre n u (by simpa using hn) (λc hc=>hv c (by simp[hc])) (hpre u d hb)
   have hki:k<i:=by
    grind
   obtain⟨j,x,g1,g2,g3⟩:=h.done k d _ w (.inl hki) (hv d (by simp)) h1 h2
   grind[D8,aeb]
theorem Cy(hD:∀q c,D q->c<95->D (step q c)){good}:∀(f i:Nat)(l:List K)(ws:List (List Nat))(r:Option (List Nat)),LInv step start D i 0 l ws->i<=l.length->(∀k<i,∀q,l[k]?=ś q->good q=false)->gN step good f i l ws=ś r->abo step start good r
 |0,_,_,_,_,_,_,_,h=>by simp[gN]at h
 |f+1,i,l,ws,r,hI,hil,hg,h=>by
   simp only[gN]at h;cases hq:l[i]? with
   |none=>
     simp only[hq,zAf]at h;subst h;have hi:i=l.length:=by grind
     intro v hv;obtain⟨k,w,h1,h2,_⟩:=Ep hI (λ_=>True) (λk w v hk hw _=>by have:=(zAb.1 hw).1;have:=hI.len;omega) (λ_ _ h=>h) v.length v rfl hv trivial
     grind
   |some q=>
     have hii:=(zAb.1 hq).1;obtain⟨w,hw⟩:∃w,ws[i]?=ś w:=⟨_,zAg (by rw[hI.len];exact hii)⟩
     simp only[hq,hw,zBb]at h;split at h
     ·rename_i hgood
      simp only[zAf]at h;subst h;obtain⟨g1,g2⟩:=hI.run i q w hq hw;refine⟨g2,by rw[g1];exact hgood,λv hv hgv hlt=>?_⟩
      have hmono:∀k u,i<=k->ws[k]?=ś u->wle w u:=λk u hk hu=>by
       rcases zAd i k with h1|h1
       ·exact .inr (hI.sorted i k w u h1 hw hu)
       ·have:k=i:=by omega
        subst this;rw[hw]at hu;cases hu;exact .inl rfl
      obtain⟨k,u,h1,h2,h3⟩:=Ep hI (λv=>wlt v w) (λk u v hk hu huv hlt=>by
       grind[IE,XH,D8])
       (λv c h=>by
         rcases h with h|⟨h,h2⟩
         ·left;simp at h;omega
         ·left;simp at h;omega) v.length v rfl hv hlt
      have hki:k<i:=by
       apply Classical.byContradiction;grind[IE,XH,D8]
      grind
     ·rename_i hgood
      obtain⟨g1,t,g2⟩:=Cw hD 95 0 l ws hI (by omega) hq hw
      have hlen:i<(AU (step q) w 95 0 l ws).1.length:=by rw[g2];simp;omega
      refine Cy hD f (i+1) _ _ r (g1.next hlen) (by omega) (λk hk q' hq'=>?_) h
      grind
theorem LInv.begin(h0:D start):LInv step start D 0 0 [start] [[]]:=by
 have one:∀{α:Type}{x y:α}{k:Nat},[x][k]?=ś y->k=0/\y=x:=λ{α x y k} h=>by
  grind
 refine⟨rfl,by simpa using h0,⟨rfl,rfl⟩,λk q w hq hw=>?_,by simp,λj k u v hjk hu hv=>?_,λk u w hu hw=>?_,λk d q w hkd=>by omega⟩
 ·grind
 ·grind
 ·obtain⟨_,rfl⟩:=one hu
  obtain⟨_,rfl⟩:=one hw;left;simp
theorem Cz(hD:∀q c,D q->c<95->D (step q c)){N}(hN:∀l:List K,(∀x∈l,D x)->l.Nodup->l.length<=N){good}:∀(f i:Nat)(l:List K)(ws:List (List Nat)),LInv step start D i 0 l ws->i<=l.length->N+1<=f+i->∃r,gN step good f i l ws=ś r
 |0,i,l,ws,hI,hil,hf=>by have:=hN l hI.dom hI.nodup;omega
 |f+1,i,l,ws,hI,hil,hf=>by
   simp only[gN];cases hq:l[i]? with
   |none=>exact⟨_,rfl⟩
   |some q=>
     have hii:=(zAb.1 hq).1;obtain⟨w,hw⟩:∃w,ws[i]?=ś w:=⟨_,zAg (by rw[hI.len];exact hii)⟩
     simp only[hw,zBb];split
     ·exact⟨_,rfl⟩
     ·obtain⟨g1,t,g2⟩:=Cw hD 95 0 l ws hI (by omega) hq hw
      have hlen:i<(AU (step q) w 95 0 l ws).1.length:=by rw[g2];simp;omega
      exact Cz hD hN f (i+1) _ _ (g1.next hlen) (by omega) (by omega)
end
end Go.Aut
end
section
set_option maxHeartbeats 1000000
set_option maxRecDepth 100000
namespace Go.Abs
open Go.Proofs Go.Aut
attribute [-simp] getElem?_pos zCa zCg
def vJ(l:List V)(i:Nat):List V:=(l.reverse.take i)++((l.drop i).take (l.length-2*i))++l.reverse.drop (l.length-i)
theorem Pz{l i}(h:2*i<=l.length):(vJ l i).length=l.length:=by simp[vJ];omega
theorem Yb(l):vJ l 0=l:=by simp[vJ]
theorem vI{l i}(h:2*i<=l.length)(k):(vJ l i)[k]?=if k<i\/l.length-i<=k then l.reverse[k]? else l[k]?:=by
 unfold vJ;grind
theorem Yc{l i}(h:2*i+1<l.length){a b}(ha:l[i]?=ś a)(hb:l[l.length-1-i]?=ś b):((vJ l i).set i b).set (l.length-1-i) a=vJ l (i+1):=by
 refine zCb λk=>?_;have hl:=Pz (l:=l) (i:=i) (by omega)
 rw[vI (by omega)]
 by_cases h1:l.length-1-i=k
 ·grind
 ·rw[zAj h1]
  by_cases h2:i=k
  ·grind
  ·rw[zAj h2,vI (by omega)]
   grind
theorem Yd{l i}(h:2*i<=l.length)(h2:l.length<=2*i+1):vJ l i=l.reverse:=by
 refine zCb λk=>?_;grind[vI]
theorem Fd(bs:List Nat)(hl:bs.length<=1000000):FnH ŷ ni [0] [.ref 0 bs.length] [ś (.arr c7 1 (bs.map u8V))] (.tup []) [ś (.arr c7 1 (bs.reverse.map u8V))]:=by
 refine yoH nB ?_;obtain⟨l,hld⟩:∃l,l=bs.map u8V:=⟨_,rfl⟩;have hll:l.length=bs.length:=by simp[hld]
 have hrev:bs.reverse.map u8V=l.reverse:=by rw[hld,zBc]
 have hget:∀k,k<l.length->∃x:Nat,l[k]?=ś (.int .u8 (x:Int)):=λk hk=>by
  obtain⟨x,hx⟩:=av (l:=bs) (k:=k) (by omega)
  exact⟨x,by rw[hld,zCc,hx];rfl⟩
 rw[hrev,<-hld,<-hll];rw[<-hll]at hl;clear hrev hld hll;simp(disch:=omega) [-zAa];refine ah (λi:Nat=>⟨[(0,.ref 0 l.length),(2,nV i),(3,.int .i64 ((l.length:Int)-1-i))],[ś (.arr c7 1 (vJ l i))]⟩) (λi=>2*i<=l.length) (λi=>l.length-i) [] _ 0 rfl (by simp[Yb]) (by simp) ?_
 intro i hi N hN;have hlen:=Pz hi;rcases zAd (2*i+1) l.length with hlt|hge
 ·obtain⟨a,ha⟩:=hget i (by omega)
  obtain⟨b,hb⟩:=hget (l.length-1-i) (by omega)
  have h1:=vI hi i;have h2:=vI hi (l.length-1-i);rw[if_neg (by omega),ha]at h1
  rw[if_neg (by omega),hb]at h2
  have hst:=Yc hlt ha hb;have hj:((l.length:Int)-1-i).toNat=l.length-1-i:=by omega
  have h3:((vJ l i).set i (.int .u8 (b:Int)))[l.length-1-i]?=ś (.int .u8 (b:Int)):=by grind
  simp(disch:=omega) [-zAa,hlen,hj,h1,h2,h3,hst];exact hN.out _<|Nx.mk (i+1) (by simp;omega) (by omega) (by omega)
 ·have:=Yd hi (by omega)
  simp(disch:=omega) [-zAa,this]
def PH(fr by':List Nat):Nat->Nat->List Nat
 |0,_=>[]
 |f+1,i=>if i=0 then[]else bh by' i::PH fr by' f (bh fr i)
structure CameBy (fr by':List Nat) (ws:List (List Nat)):Prop where
 len1:fr.length=ws.length
 len2:by'.length=ws.length
 zero:∀w,ws[0]?=ś w->w=[]
 back:∀(i:Nat)(w:List Nat),0<i->ws[i]?=ś w->∃(j c:Nat)(u:List Nat),fr[i]?=ś j/\by'[i]?=ś (32+c)/\j<i/\ws[j]?=ś u/\w=u++[c]/\c<95
theorem Vd{fr by':List Nat}{ws:List (List Nat)}(h:CameBy fr by' ws):∀(f i:Nat)(w:List Nat),i<f->ws[i]?=ś w->PH fr by' f i=w.reverse.map (32+ ·)
 |0,_,_,hf,_=>by omega
 |f+1,i,w,hf,hw=>by
   simp only[PH];by_cases hi:i=0
   ·subst hi
    rw[if_pos rfl,h.zero w hw];rfl
   ·rw[if_neg hi]
    obtain⟨j,c,u,h1,h2,h3,h4,rfl,_⟩:=h.back i w (by omega) hw
    rw[show bh by' i=32+c by simp[bh,h2],show bh fr i=j by simp[bh,h1],Vd h f j u (by omega) h4]
    simp
def bK(w:List Nat):List UInt8:=w.map λc=>UInt8.ofNat (32+c)
theorem Cg:∀(w:List Nat),(∀c∈w,c<95)->ez ((w.map (32+ ·)).map u8V)=ś (bK w)
 |[],_=>rfl
 |c::w,h=>by
   have ih:=Cg w λc hc=>h c (by simp[hc])
   have hc:=h c (by simp)
   simp only[zCf,ez,ih,u8V,Option.map_some,Int.toNat_natCast];rfl
theorem ZC(fr by')(ws)(h:CameBy fr by' ws)(hl:ws.length<=1000000)(i)(w)(hw:ws[i]?=ś w)(hw95:∀c∈w,c<95)(hwl:w.length<=i):Fn ŷ Yy [di fr,.seq 1 (by'.map u8V),nV i] (.str (bK w)):=by
 refine yoE YS ?_;have hil:=(zAb.1 hw).1;have h1:=h.len1;have h2:=h.len2;obtain⟨R,hR⟩:∃R,R=w.reverse.map (32+ ·):=⟨_,rfl⟩;have hRl:R.length=w.length:=by simp[hR]
 have hpn:PH fr by' (i+1) i=R:=by grind[Vd]
 simp(disch:=omega) [-zAa]
 refine ah (λ(x:Nat×Nat×List Nat)=>⟨[(0,di fr),(1,.seq 1 (by'.map u8V)),(2,nV x.2.1),(7,.ref 0 x.2.2.length)],[ś (.arr c7 1 (x.2.2.map u8V))]⟩)
  (λx=>x.2.1<x.1/\x.2.1<=i/\x.2.2.length+x.2.1<=i/\x.2.2++PH fr by' x.1 x.2.1=R) (λx=>x.1) [.r 7 c7 1] _ (i+1,i,[]) rfl (by simp) ⟨by simp,by simp,by simp,by simpa using hpn⟩ ?_
 rintro⟨f,k,out⟩ ⟨hf,hk,hol,hi⟩ N hN;simp only at hf hk hol hi;cases f with
 |zero=>omega
 |succ f=>
 simp only[PH]at hi;obtain⟨u,hu⟩:=av (l:=ws) (k:=k) (by omega)
 by_cases hk0:k=0
 ·subst hk0
  rw[if_pos rfl,List.append_nil]at hi;subst hi;have hrv:=Fd out (by omega)
  have hob:ez ((out.map u8V).reverse)=ś (bK w):=by
   grind[zBc,List.reverse_reverse,Cg]
  simp(disch:=omega) [-zAa];refine am [0] 1 [0] (by simp) (by simp) (by simp) (by simp) hrv (by simp) λ_ _=>?_
  simp_all
 ·rw[if_neg hk0]at hi
  obtain⟨j,c,u',g1,g2,g3,g4,g5,g6⟩:=h.back k u (by omega) hu
  rw[show bh by' k=32+c by simp[bh,g2],show bh fr k=j by simp[bh,g1]]at hi
  replace hi:=hid hi;simp(disch:=omega) [-zAa,g1,g2];exact hN.out _<|Nx.mk (f,j,out++[32+c]) (by simp) ⟨by simp only;omega,by simp only;omega,by simp;omega,by simpa using hi.out⟩ (by simp only;omega)
def afs(e sz:Nat)(d:Option Nat)(K:St->Prop)(σ:St)(vs us:List V):Prop:=cw sz us=true/\us.length<=16777216/\K (St.put ⟨(σ.kill (ax vs)).r,(σ.kill (ax vs)).h++[ś (Ob.arr e sz us)]⟩ d (.ref (σ.kill (ax vs)).h.length us.length))
def akZ(e sz:Nat)(d:Option Nat)(K:St->Prop)(σ:St)(vs:List V):Prop:=oM (purs σ.h vs) (afs e sz d K σ vs)
theorem acq{e sz d K σ vs us}:afs e sz d K σ vs us=(cw sz us=true/\us.length<=16777216/\K (St.put ⟨(σ.kill (ax vs)).r,(σ.kill (ax vs)).h++[ś (Ob.arr e sz us)]⟩ d (.ref (σ.kill (ax vs)).h.length us.length))):=propext zCi
theorem afr{e sz d K σ vs}:akZ e sz d K σ vs=oM (purs σ.h vs) (afs e sz d K σ vs):=propext zCi
theorem a_ltr{Φ d K σ e sz xs}:ak Φ d (.ltr e sz xs) K σ=oM (σ.evs xs) (akZ e sz d K σ):=by
 simp only[ak,oM];cases σ.evs xs with
 |none=>rfl
 |some vs=>
   simp only[akZ,oM];cases purs σ.h vs<;>rfl
attribute [simp] acq afr a_ltr
def yA:Option (List Nat)->V
 |some w=>.tup [.str (bK w),.bool true]
 |none=>.tup [.str [],.bool false]
theorem CameBy.add{fr by' ws}(h:CameBy fr by' ws){i c w}(hw:ws[i]?=ś w)(hc:c<95):CameBy (fr++[i]) (by'++[32+c]) (ws++[w++[c]]):=by
 have hil:=(zAb.1 hw).1;have h1:=h.len1;have h2:=h.len2;refine⟨by simp[h1],by simp[h2],λu hu=>?_,λk u hk hu=>?_⟩
 ·rw[zAc (by omega)]at hu
  exact h.zero u hu
 ·rcases zAd k ws.length with hkl|hkl
  ·rw[zAc hkl]at hu
   obtain⟨j,d,v,g1,g2,g3,g4,g5,g6⟩:=h.back k u hk hu;grind
  ·have hkk:=(zAb.1 hu).1
   simp at hkk;have:k=ws.length:=by omega
   simp_all[zAe,zBf,zBa,zBd,zAf,zAc]
def aj4(ws:List (List Nat)):Prop:=∀(k:Nat)(w:List Nat),ws[k]?=ś w->w.length<=k
def sgn(c:UInt8):Bool:=decide (32<=c.toNat)&&decide (c.toNat<=126)
end Go.Abs
end
section
set_option maxHeartbeats 4000000
set_option maxRecDepth 100000
namespace Go.Abs
open Go.Proofs Go.Aut
attribute [-simp] getElem?_pos zCa zCg
theorem aiC{n m i j:Nat}(hi:i<n)(hj:j<m):i*m+j<n*m:=by
 have:(i+1)*m<=n*m:=Nat.mul_le_mul_right m hi;grind
theorem VK{m i j:Nat}(hj:j<m):(i*m+j)/m=i/\(i*m+j)%m=j:=by
 rw[Nat.mul_comm i m,Nat.mul_add_div (by omega),Nat.div_eq_of_lt hj,Nat.mul_add_mod,Nat.mod_eq_of_lt hj]
 exact⟨rfl,rfl⟩
def ktP:KT:=⟨true,[.i .i64,.i .i64]⟩
def pV(p:Nat×Nat):V:=.strct [nV p.1,nV p.2]
theorem ZN(a b):eqK (pV a) (pV b)=decide (a=b):=by
 grind[eqK,pm,nV,cl,eqC,pV,Prod.ext_iff]
theorem Bq(q):FnH ŷ i7 [0] [.ptr 0 0,pV q] (s7 ktP 2) (nV 0) (fH ktP cQ 2 pV [q]):=by
 refine yoH i8 ?_;unfold eG;simp(disch:=omega) [-zAa,s7,fH,ktP,nV,pV,lU,nq,ee,b5,kOf,aU,bH,gD]
theorem Lb(l)(q)(hl:l.length<=1000000):FnH ŷ i7 [0] [.ptr 0 0,pV q] (fH ktP cQ 2 pV l) (nV (lj eqB l q)) (fH ktP cQ 2 pV (c5 eqB l q)):=by
 refine yoH i8 ?_;unfold eG;have hm:=rL ZN q l 0;cases hp:pos eqB q l with
 |some i=>
   rw[hp]at hm;replace hm:lU (.strct [.int .i64 (q.1:Int),.int .i64 (q.2:Int)]) (ee pV 0 l)=ś (.int .i64 (i:Int)):=by grind[nV,pV]
   obtain⟨h1,h2⟩:=ki hp;rw[h1,h2];simp(disch:=omega) [-zAa,fH,ktP,nV,pV,b5,kOf,aU,bH,gD,hm]
 |none=>
   rw[hp]at hm;replace hm:lU (.strct [.int .i64 (q.1:Int),.int .i64 (q.2:Int)]) (ee pV 0 l)=none:=by grind[nV,pV]
   have hpt:=rK ZN q l 0 hp;replace hpt:nq (.strct [.int .i64 (q.1:Int),.int .i64 (q.2:Int)]) (.int .i64 (l.length:Int)) (ee pV 0 l)=ee pV 0 (l++[q]):=by grind[nV,pV]
   obtain⟨h1,h2⟩:=sr hp;rw[h1,h2];simp(disch:=omega) [-zAa,fH,ktP,nV,pV,b5,kOf,aU,bH,gD,hm,hpt]
theorem H8(q):FnH ŷ yF [] [.ref 0 1] [ś (.arr cQ 2 [pV q])] (.ptr 0 0) (fH ktP cQ 2 pV [q]):=by
 refine yoH yM ?_;unfold m9;simp(disch:=omega) [-zAa,pV];refine ah (λk:Nat=>if k=0 then⟨[(3,.ptr 0 0),(9,.ref 1 1),(10,.int .i64 1),(11,.int .i64 0)],[ś (.box [.ref 2 0,.nil 2]),ś (.arr cQ 2 [pV q]),ś (.mp ktP [])]⟩else⟨[(3,.ptr 0 0),(9,.ref 1 1),(10,.int .i64 1),(11,.int .i64 1)],[ś (.box [.ref 2 0,.ref 3 1]),ś (.arr cQ 2 [pV q]),ś (.mp ktP (ee pV 0 [q])),ś (.arr cQ 2 [pV q])]⟩) (λk=>k<=1) (λk=>1-k) [] _ 0 rfl (by simp[ktP,pV]) (by simp) ?_
 intro k hk N hN;have hadd:=Bq q;simp[pV]at hadd;rcases(show k=0\/k=1 by omega)with rfl|rfl
 ·simp(disch:=omega) [-zAa,pV]
  refine am [0] 1 [0,2] (by simp) (by simp) (by simp) (by simp) hadd (by simp) λ_ _=>?_
  simp(disch:=omega) [-zAa];exact hN.out _<|Nx.mk 1 (by simp[pV]) (by simp) (by simp)
 simp_all[zAa,pV]
theorem Uc{a b p c x y r s}(hr:a.next[p.1]?=ś r)(hx:r[c]?=ś x)(hs:b.next[p.2]?=ś s)(hy:s[c]?=ś y):
 FnH ŷ jI [2,3] [pV p,nV c,.ptr 0 0,.ptr 1 0] [ś (.box (Aut.c a)),ś (.box (Aut.c b))] (pV (x,y)) [ś (.box (Aut.c a)),ś (.box (Aut.c b))]:=by
 refine yoH SP ?_;simp_all[zAa,Aut.c,pV]
theorem acE{P fn K n r}(h:aj P fn K n=ś r):ay P fn [] [] K n=ś r:=by
 grind[aj,ay]
theorem ZE{a b}:FnH ŷ YA [] [.strct (Aut.c a),.strct (Aut.c b)] [] (.fn (.func jI) [] [.ptr 0 0,.ptr 1 0]) [ś (.box (Aut.c a)),ś (.box (Aut.c b))]:=by
 refine FnH.of_image mixed Tryz.func170 (acE YU.2) rfl λho hh=>?_;simp_all[zAa,Aut.c]
theorem Lh{a b p f1 f2}(h1:a.final[p.1]?=ś f1)(h2:b.final[p.2]?=ś f2){g:Nat}{op:Bool->Bool->Bool}(hg:∀x y,Fn ŷ g [.bool x,.bool y] (.bool (op x y))):
 FnH ŷ jG [1,2,3] [pV p,.ptr 0 0,.ptr 1 0,.ptr 2 0] [ś (.box [.fn (.func g) [] []]),ś (.box (Aut.c a)),ś (.box (Aut.c b))] (.bool (op f1 f2)) [ś (.box [.fn (.func g) [] []]),ś (.box (Aut.c a)),ś (.box (Aut.c b))]:=by
 refine yoH Kb ?_;simp(disch:=omega) [-zAa,Aut.c,pV,h1,h2];refine aw (hg f1 f2) rfl ?_;simp
theorem ZJ(x y):Fn ŷ JE [.bool x,.bool y] (.bool (x&&y)):=by
 refine yoA Kd ?_;cases x<;>simp(disch:=omega) [-zAa]
def d4(a b:Aut)(p:Nat×Nat)(c:Nat):Nat×Nat:=(a.δ p.1 c,b.δ p.2 c)
def kY(a b:Aut)(op:Bool->Bool->Bool)(p:Nat×Nat):Bool:=op (a.F p.1) (b.F p.2)
def md(a b:Aut)(g:Nat):List (Option Ob):=[ś (.box (Aut.c a)),ś (.box (Aut.c b)),ś (.box [.fn (.func g) [] []]),ś (.box (Aut.c a)),ś (.box (Aut.c b))]
def lsP(a b:Aut)(g:Nat)(fr by':List Nat)(l:List (Nat×Nat)):List (Option Ob):=md a b g++[ś (.box [.ref 8 0,.ref 9 l.length]),ś (.arr ap 1 (fr.map nV)),ś (.arr c7 1 (by'.map u8V)),ś (.mp ktP (ee pV 0 l)),ś (.arr cQ 2 (l.map pV))]
def lsQ(a b:Aut)(g:Nat)(fr by':List Nat)(last:Nat×Nat)(l:List (Nat×Nat)):List (Option Ob):=md a b g++[ś (.box [.ref 9 0,.ref 10 l.length]),ś (.arr ap 1 (fr.map nV)),ś (.arr c7 1 (by'.map u8V)),ś (.box [nV last.1,nV last.2]),ś (.mp ktP (ee pV 0 l)),ś (.arr cQ 2 (l.map pV))]
theorem zb{α β:Type}{f:α->β}:∀{l:List α},l.Nodup->(∀x∈l,∀y∈l,f x=f y->x=y)->(l.map f).Nodup
 |[],_,_=>by simp
 |x::l,h,hi=>by
   rw[zCe]at h;rw[zCf,zCe];refine⟨λhm=>?_,zb h.2 λy hy z hz=>hi y (by simp[hy]) z (by simp[hz])⟩
   obtain⟨y,hy,e⟩:=zCh.1 hm;have:=hi y (by simp[hy]) x (by simp) e
   subst this;exact h.1 hy
theorem lQ{n m}{l:List (Nat×Nat)}(h:l.Nodup)(hd:∀x∈l,x.1<n/\x.2<m):l.length<=n*m:=by
 have:=cU (n*m) (l.map λp=>p.1*m+p.2) (zb h λx hx y hy e=>by
  grind[VK,zCj]) λx hx=>by
   obtain⟨p,hp,rfl⟩:=zCh.1 hx;exact aiC (hd p hp).1 (hd p hp).2
 simpa using this
theorem T3{a b}(ha:a.ok)(hb:b.ok)(hab:a.n*b.n<=250000){g:Nat}{op}(hg:∀x y,Fn ŷ g [.bool x,.bool y] (.bool (op x y)))(r)(hr:gN (d4 a b) (kY a b op) (a.n*b.n+1) 0 [(0,0)] [[]]=ś r):
 FnH ŷ v8 [1,2] [pV (0,0),.fn (.func jI) [] [.ptr 0 0,.ptr 1 0],.fn (.func jG) [] [.ptr 2 0,.ptr 3 0,.ptr 4 0]] (md a b g) (yA r) (md a b g):=by
 refine yoH wz ?_;unfold mu;obtain⟨X,hX⟩:∃X,X=yA r:=⟨_,rfl⟩;rw[<-hX];have hnl:a.next.length=a.n:=rfl;have hnl2:b.next.length=b.n:=rfl;have hD:∀(q:Nat×Nat)(c:Nat),(q.1<a.n/\q.2<b.n)->c<95->((d4 a b q c).1<a.n/\(d4 a b q c).2<b.n):=λq c hq hc=>⟨ha.lt hq.1 hc,hb.lt hq.2 hc⟩;have hfl:a.final.length=a.n:=ha.fin;have hfl2:b.final.length=b.n:=hb.fin;have hmeet:=H8 (0,0);simp[pV]at hmeet;simp(disch:=omega) [-zAa,Aut.c,md,pV];refine am [] 0 [6] (by simp) (by simp) (by simp) (by simp) hmeet (by simp) λ_ _=>?_
 simp(disch:=omega) [-zAa]
 refine ah (λ(x:Nat×Nat×List (Nat×Nat)×List Nat×List Nat×List (List Nat))=>⟨[(1,.fn (.func jI) [] [.ptr 0 0,.ptr 1 0]),(2,.fn (.func jG) [] [.ptr 2 0,.ptr 3 0,.ptr 4 0]),(8,.ptr 5 0),(9,.ref 6 x.2.2.1.length),(10,.ref 7 x.2.2.1.length),(11,nV x.2.1)],lsP a b g x.2.2.2.1 x.2.2.2.2.1 x.2.2.1⟩)
  (λx=>LInv (d4 a b) (0,0) (λq=>q.1<a.n/\q.2<b.n) x.2.1 0 x.2.2.1 x.2.2.2.2.2/\x.2.1<=x.2.2.1.length/\CameBy x.2.2.2.1 x.2.2.2.2.1 x.2.2.2.2.2/\aj4 x.2.2.2.2.2/\gN (d4 a b) (kY a b op) x.1 x.2.1 x.2.2.1 x.2.2.2.2.2=ś r) (λx=>x.1) [] _ (a.n*b.n+1,0,[(0,0)],[0],[0],[[]]) rfl (by simp[lsP,md,ee,Aut.c,ktP,pV])
  ⟨LInv.begin ⟨ha.pos,hb.pos⟩,by simp,⟨rfl,rfl,λw hw=>by simpa using hw.symm,λi w hi hw=>by grind⟩,λk w hw=>by grind,hr⟩ ?_
 rintro⟨f,i,l,fr,by',ws⟩ ⟨hI,hil,hC,hwl,hgo⟩ N hN;simp only at hI hil hC hwl hgo;have hln:=lQ hI.nodup hI.dom;have hwsl:=hI.len;have hfrl:=hC.len1;have hbyl:=hC.len2;cases f with
 |zero=>simp[gN]at hgo
 |succ f=>
 simp only[gN]at hgo;rcases zAd i l.length with hlt|hge
 ·obtain⟨q,hq⟩:=av hlt
  obtain⟨w,hw⟩:=av (l:=ws) (k:=i) (by omega)
  have hqn:=hI.dom q (zAi hq);obtain⟨f1,hf1⟩:=av (l:=a.final) (k:=q.1) (by omega)
  obtain⟨f2,hf2⟩:=av (l:=b.final) (k:=q.2) (by omega)
  have hF:kY a b op q=op f1 f2:=by simp_all[kY,Aut.F,fin]
  rw[hq,hw]at hgo;simp only[zBb,hF]at hgo;have hgood:=Lh (a:=a) (b:=b) hf1 hf2 hg;obtain⟨bb,hbb⟩:∃bb,bb=op f1 f2:=⟨_,rfl⟩;rw[<-hbb]at hF hgood hgo;simp[pV,Aut.c]at hgood;have hw95:=(hI.run i q w hq hw).2;replace hgo:=hid hgo;simp(disch:=omega) [-zAa,lsP,md,pV,hq,Aut.c];refine am [1,2,3] 3 [2,3,4] (by simp) (by simp) (by simp) (by simp[Aut.c]) hgood (by simp) λ_ _=>?_
  simp(disch:=omega) [-zAa,Aut.c];cases bb with
  |true=>
    have hgo:=hgo.out;simp only[if_true,zAf]at hgo;subst hgo;have hpath:=ZC fr by' ws hC (by omega) i w hw hw95 (hwl i w hw)
    simp at hpath;simp(disch:=omega) [-zAa,hfrl,hbyl,hwsl];refine aa hpath rfl λ_=>?_;simp_all[zAa,Aut.c,md,yA]
  |false=>
    have hgo:=hgo.out;rw[if_neg (by decide)]at hgo
    obtain⟨T,hT⟩:∃T,T=AU (d4 a b q) w 95 0 l ws:=⟨_,rfl⟩;rw[<-hT]at hgo;replace hgo:=hid hgo;simp(disch:=omega) [-zAa,hq,Aut.c,pV]
    have hposq:pos eqB q l=ś i:=by
     refine Ij ?_ hq;intro j k x y hjk hx hy;have:=(List.pairwise_iff_getElem.1 (List.nodup_iff_pairwise_ne.1 hI.nodup)) j k (zAb.1 hx).1 (zAb.1 hy).1 hjk;grind[zAb,eqB]
    refine ah (λ(x:Nat×(Nat×Nat)×List (Nat×Nat)×List Nat×List Nat×List (List Nat))=>⟨[(1,.fn (.func jI) [] [.ptr 0 0,.ptr 1 0]),(2,.fn (.func jG) [] [.ptr 2 0,.ptr 3 0,.ptr 4 0]),(8,.ptr 5 0),(9,.ref 6 x.2.2.1.length),(10,.ref 7 x.2.2.1.length),(11,nV i),(12,.ptr 8 0),(49,nV x.1)],lsQ a b g x.2.2.2.1 x.2.2.2.2.1 x.2.1 x.2.2.1⟩)
     (λx=>x.1<=95/\LInv (d4 a b) (0,0) (λq=>q.1<a.n/\q.2<b.n) i x.1 x.2.2.1 x.2.2.2.2.2/\CameBy x.2.2.2.1 x.2.2.2.2.1 x.2.2.2.2.2/\aj4 x.2.2.2.2.2/\x.2.2.1[i]?=ś q/\x.2.2.2.2.2[i]?=ś w/\(pos eqB x.2.1 x.2.2.1).isSome=true/\AU (d4 a b q) w (95-x.1) x.1 x.2.2.1 x.2.2.2.2.2=T) (λx=>95-x.1) [] _ (0,q,l,fr,by',ws) rfl (by simp_all[lsP,lsQ,md,pV,Aut.c]) ⟨by simp,hI,hC,hwl,hq,hw,by simp[hposq],by simp[hT]⟩ ?_
    rintro⟨c,last,l',fr',by2,ws'⟩ ⟨hc,hI',hC',hwl',hq',hw',hp,hrow⟩ M hM;simp only at hc hI' hC' hwl' hq' hw' hp hrow;have hln':=lQ hI'.nodup hI'.dom;have hwsl':=hI'.len;have hfrl':=hC'.len1;have hbyl':=hC'.len2;have hil':=(zAb.1 hq').1;rcases zAd c 95 with hc95|hc95
    ·obtain⟨rr,t1,hr1,hr2,hr3,hr4⟩:=ha.rows.dl (q:=q.1) (c:=c) (by omega) hc95
     obtain⟨rr2,t2,hr5,hr6,hr7,hr8⟩:=hb.rows.dl (q:=q.2) (c:=c) (by omega) hc95
     have hl1:=Uc (a:=a) (b:=b) (p:=q) hr1 hr2 hr5 hr6;obtain⟨t,ht⟩:∃t:Nat×Nat,t=(t1,t2):=⟨_,rfl⟩;have hδ:d4 a b q c=t:=by rw[ht];exact zCj hr3 hr7
     rw[<-ht]at hl1;simp[pV,Aut.c]at hl1;obtain⟨m',hm'⟩:∃m',95-c=m'+1:=⟨94-c,by omega⟩
     have hm2:95-(c+1)=m':=by omega
     rw[hm']at hrow;simp only[AU,hδ]at hrow;have hstep:=hI'.one hD hc95 hq' hw';rw[hδ]at hstep;replace hrow:=hid hrow;simp(disch:=omega) [-zAa,lsQ,md,pV,hq',Aut.c];refine am [2,3] 2 [0,1] (by simp) (by simp) (by simp) (by simp[Aut.c]) hl1 (by simp) λ_ _=>?_
     have hek:eqK (V.strct [V.int IntKind.i64 (t.1:Int),V.int IntKind.i64 (t.2:Int)]) (V.strct [V.int IntKind.i64 (last.1:Int),V.int IntKind.i64 (last.2:Int)])=decide (t=last):=by simpa[pV]using ZN t last
     have hadd:=Lb l' t (by omega)
     simp[pV]at hadd;simp(disch:=omega) [-zAa,Aut.c,bH,gD,b5,kOf,aU,hek];by_cases htl:t=last
     ·subst htl
      have hrow:=hrow.out;rw[if_pos hp]at hrow;rw[if_pos hp,if_pos hp]at hstep;simp(disch:=omega) [-zAa];exact hM.out _<|Nx.mk (c+1,t,l',fr',by2,ws') (by simp[lsP,lsQ,md,pV,Aut.c]) ⟨by simp only;omega,hstep,hC',hwl',hq',hw',hp,by simp_all⟩ (by simp only;omega)
     ·simp(disch:=omega) [-zAa,htl]
      refine am [0] 1 [5,9,10] (by simp) (by simp) (by simp) (by simp) hadd (by simp) λ_ _=>?_
      cases hpt:pos eqB t l' with
      |some j=>
        have hjl:=akF hpt;obtain⟨e1,e2⟩:=ki hpt;have hrow:=hrow.out;have hps:(pos eqB t l').isSome=true:=by simp[hpt]
        rw[if_pos hps]at hrow;rw[if_pos hps,if_pos hps]at hstep;have hne:¬j=l'.length:=by omega
        simp(disch:=omega) [-zAa,e1,e2,hfrl',hwsl',hne,Aut.c];exact hM.out _<|Nx.mk (c+1,t,l',fr',by2,ws') (by simp[lsP,lsQ,md,pV,Aut.c]) ⟨by simp only;omega,hstep,hC',hwl',hq',hw',hps,by simp_all⟩ (by simp only;omega)
      |none=>
        obtain⟨e1,e2⟩:=sr hpt;have hrow:=hrow.out;have hps:¬(pos eqB t l').isSome=true:=by simp[hpt]
        rw[if_neg hps]at hrow;rw[if_neg hps,if_neg hps]at hstep;have hC2:=hC'.add hw' hc95
        have hwl2:aj4 (ws'++[w++[c]]):=λk u hu=>by
         rcases zAd k ws'.length with hk|hk
         ·rw[zAc hk]at hu;exact hwl' k u hu
         ·have hkk:=(zAb.1 hu).1
          simp at hkk;have:k=ws'.length:=by omega
          subst this;rw[zAe (zBf _),zBa]at hu;simp only[zBd,zAf]at hu;subst hu;have:=hwl' i w hw';simp;omega
        simp(disch:=omega) [-zAa,e1,e2,hfrl',hwsl',hbyl',Aut.c];exact hM.out _<|Nx.mk (c+1,t,l'++[t],fr'++[i],by2++[32+c],ws'++[w++[c]]) (by simp[lsP,lsQ,md,pV,Aut.c]) ⟨by simp only;omega,hstep,hC2,hwl2,by grind,by grind,by simp[I9 hpt],by simp_all⟩ (by simp only;omega)
    ·have hc0:c=95:=by omega
     subst hc0;simp only[zBa,AU]at hrow;subst hrow;have hgo:=hgo.out;simp(disch:=omega) [-zAa,lsP,lsQ,md,pV,Aut.c];exact hN.out _<|Nx.mk (f,i+1,l',fr',by2,ws') (by simp[lsP,lsQ,md,pV,Aut.c]) ⟨hI'.next hil',by simp only;omega,hC',hwl',hgo⟩ (by simp only;omega)
 ·have:i=l.length:=by omega
  rw[List.getElem?_eq_none (by omega)]at hgo
  simp only[zAf]at hgo;subst hgo;simp_all[zAa,lsP,lsQ,md,pV,Aut.c,yA]
theorem T9{a b}(ha:a.ok)(hb:b.ok)(han:a.n<=500)(hbn:b.n<=500){g:Nat}{op}(hg:∀x y,Fn ŷ g [.bool x,.bool y] (.bool (op x y)))(r)(hr:gN (d4 a b) (kY a b op) (a.n*b.n+1) 0 [(0,0)] [[]]=ś r):
 Fn ŷ RT [.strct (Aut.c a),.strct (Aut.c b),.fn (.func g) [] []] (yA r):=by
 refine yoE SM ?_;have hab:a.n*b.n<=250000:=Nat.le_trans (Nat.mul_le_mul han hbn) (by decide)
 have hma:=tD ha (by omega)
 have hmb:=tD hb (by omega)
 have hbo:=ZE (a:=a) (b:=b);have hl:=T3 ha hb hab hg r hr;obtain⟨X,hX⟩:∃X,X=yA r:=⟨_,rfl⟩;rw[<-hX];simp[Aut.c]at hma hmb hbo;simp[Aut.c,md,pV]at hl;simp(disch:=omega) [-zAa,Aut.c];refine aa hma rfl λ_=>?_;simp(disch:=omega) [-zAa];refine aa hmb rfl λ_=>?_;simp(disch:=omega) [-zAa];refine am [] 0 [] (by simp) (by simp) (by simp) (by simp) hbo (by simp) λ_ _=>?_
 simp(disch:=omega) [-zAa];refine am [1,2] 5 [3,4,2,0,1] (by simp) (by simp) (by simp) (by simp) hl (by simp) λ_ _=>?_
 cases r with
 |none=>simp_all[zAa,yA]
 |some w=>simp_all[zAa,yA]
theorem IX{a b}:∀(w:List Nat)(p q:Nat),w.foldl (d4 a b) (p,q)=(w.foldl a.δ p,w.foldl b.δ q)
 |[],_,_=>rfl
 |c::w,p,q=>IX w _ _
theorem Dk{a b}(ha:a.ok)(hb:b.ok)(han:a.n<=500)(hbn:b.n<=500)(r)(hr:gN (d4 a b) (kY a b λx y=>x&&y) (a.n*b.n+1) 0 [(0,0)] [[]]=ś r):
 Fn ŷ sY [.strct (Aut.c a),.strct (Aut.c b)] (yA r):=by
 refine yoA SQ ?_;have hs:=T9 ha hb han hbn ZJ r hr;simp[Aut.c]at hs;simp(disch:=omega) [-zAa,Aut.c];cases r with
 |none=>
   simp[yA]at hs;refine ae hs (by simp) λ_=>?_
   simp_all[zAa,yA]
 |some w=>
   simp[yA]at hs;refine ae hs (by simp) λ_=>?_
   simp_all[zAa,yA]
def GY:AC:=
 Q [.reg [bx 1 0,o1 2 (.alc [.nil 1,.nil 1])] [1,2],
 Q [.reg [la 6 1 2,ca 7 EA [6],bi 8 .neq 7 0] [1,2,8],
  C 8 (Q [.reg [o1 9 (.bld [.nil 1,.nil 1] []),st 2 2 9] [2],
    .ret]) (.skip)],
 .reg [o1 3 (.alc [.nil 1,.nil 1])] [1,2,3],
 Q [.reg [fa 10 1 0,l1 11 10,lq 12 11,mi 13 0] [1,2,3,11,12,13],
  .block 0 (.loop [1,2,3,11,12,13] (Q [.reg [bt 14 .lss 13 12] [1,2,3,11,12,13,14],
   C 14 (.skip) (.exit 0),
   .block 1 (Q [.reg [m 15 13,ia 16 11 13 1,l1 17 16,m 4 15,m 5 17] [1,2,3,4,5,11,12,13],
    .regF (OQ [m 20 5] (.both
     (OQ [fa 18 3 0] (.both
       (OQ [l1 19 18,o1 21 (.app (.v (.nil 1)) (.t 20) 3 1 8),o1 22 (.ltr aN 1 [.t 21]),o1 23 (.app (.t 19) (.t 22) aN 1 24),fa 24 3 0,st 1 24 23] .nil)
       (OQ [o1 21 (.app (.v (.nil 1)) (.t 20) 3 1 8)] (.both
         (OQ [l1 19 18,o1 22 (.ltr aN 1 [.t 21]),o1 23 (.app (.t 19) (.t 22) aN 1 24),fa 24 3 0,st 1 24 23] .nil)
         (OQ [o1 22 (.ltr aN 1 [.t 21]),l1 19 18,o1 23 (.app (.t 19) (.t 22) aN 1 24),fa 24 3 0,st 1 24 23] .nil)))))
     (OQ [o1 21 (.app (.v (.nil 1)) (.t 20) 3 1 8)] (.both
       (OQ [fa 18 3 0] (.both
         (OQ [l1 19 18,o1 22 (.ltr aN 1 [.t 21]),o1 23 (.app (.t 19) (.t 22) aN 1 24),fa 24 3 0,st 1 24 23] .nil)
         (OQ [o1 22 (.ltr aN 1 [.t 21]),l1 19 18,o1 23 (.app (.t 19) (.t 22) aN 1 24),fa 24 3 0,st 1 24 23] .nil)))
       (OQ [o1 22 (.ltr aN 1 [.t 21]),fa 18 3 0,l1 19 18,o1 23 (.app (.t 19) (.t 22) aN 1 24),fa 24 3 0,st 1 24 23] .nil))))) [1,2,3,4,11,12,13],
    .regD [fa 25 3 1,l1 26 25,fa 27 1 1,l1 28 27,m 29 4,ia 30 28 29 1,l1 31 30,nt' 32 31,o1 33 (.lit 4 1 [.t 32]),o1 34 (.app (.t 26) (.t 33) 4 1 1),fa 35 3 1,st 1 35 34] [1,2,3,11,12,13]]),
   .reg [bi 36 .add 13 1,m 13 36] [1,2,3,11,12,13]]))],
 .reg [la 37 3 2,st 2 2 37] [2],
 .ret]
theorem V7:ay ŷ Tryz.f92 [] [2000000+aN] [[1,2],[1,2,8],[2],[1,2,3],[1,2,3,11,12,13],[1,2,3,11,12,13],[1,2,3,11,12,13,14],[1,2,3,4,5,11,12,13],[1,0,1,0,4,12,31,63,127],[1,2,3,4,11,12,13],[0,0,1,0,4,0,28,60,124,252,511,1023,2047],[0,1,2,3,4,5,6,7,8,9,10,11],[1,2,3,11,12,13],[1,2,3,11,12,13],[2]] 1=ś (GY,[.c 2 2 true]):=by kernel_rfl
theorem alI{Φ d K σ e sz xs}:an Φ d (.ltr e sz xs) K σ=ak Φ d (.ltr e sz xs) K σ:=propext zCi
attribute [local simp] alI
def vV(a:Aut):Aut:=⟨a.next,a.final.map (!·)⟩
theorem yp{a}(ha:a.ok)(hn:a.n<=500):Fn ŷ acd [.strct (Aut.c a)] (.strct (Aut.c (vV a))):=by
 refine Fn.of_imageE mixed Tryz.func92 V7 rfl λho=>?_;unfold GY;clear ho;have hnl:a.next.length=a.n:=rfl;have hfl:a.final.length=a.n:=ha.fin;have hma:=tD ha hn;obtain⟨R,hR⟩:∃R,R=V.strct (Aut.c (vV a)):=⟨_,rfl⟩;rw[<-hR];obtain⟨fs,hfs⟩:∃fs,fs=a.final.map (!·):=⟨_,rfl⟩;have hfsl:fs.length=a.n:=by rw[hfs];simp[hfl]
 simp[Aut.c]at hma;simp(disch:=omega) [-zAa,Aut.c];refine aa hma rfl λ_=>?_;simp(disch:=omega) [-zAa,hnl];refine ah (λk:Nat=>⟨[(1,.ptr 0 0),(2,.ptr 1 0),(3,.ptr 2 0),(11,.seq 1 (a.next.map di)),(12,.int .i64 a.n),(13,nV k)],[ś (.box (Aut.c a)),ś (.box [.nil 1,.nil 1]),ś (.box [.ref 3 k,.ref 4 k]),ś (.arr aN 1 ((a.next.take k).map di)),ś (.arr aH 1 ((fs.take k).map V.bool))]⟩) (λk=>k<=a.n) (λk=>a.n-k) [.b 2 0 aN 1,.b 2 1 aH 1] _ 0 rfl (by simp[Aut.c]) (by simp) ?_
 intro k hk N hN;rcases zAd k a.n with hlt|hge
 ·obtain⟨r,hr⟩:=av (l:=a.next) (k:=k) (by omega)
  obtain⟨f,hf⟩:=av (l:=a.final) (k:=k) (by omega)
  have hrl:r.length=95:=(ha.rows r (zAi hr)).1;have hfg:fs[k]?=ś (!f):=by rw[hfs,zCc,hf];rfl
  have hrt:=bk hr;have hft:=bk hfg;have hrtl:(a.next.take k).length=k:=by simp;omega
  have hftl:(fs.take k).length=k:=by simp;omega
  simp(disch:=omega) [-zAa,Aut.c,hr,hrtl,hftl];refine cd ⟨[(1,.ptr 0 0),(2,.ptr 1 0),(3,.ptr 2 0),(4,nV k),(11,.seq 1 (a.next.map di)),(12,.int .i64 a.n),(13,nV k)],[ś (.box (Aut.c a)),ś (.box [.nil 1,.nil 1]),ś (.box [.ref 3 (k+1),.ref 4 k]),ś (.arr aN 1 ((a.next.take k++[r]).map di)),ś (.arr aH 1 ((fs.take k).map V.bool))]⟩ (λF hF=>?_) ?_
  ·simp[Aut.c]at hF
   repeat' first|exact hF|refine QU.mk ?_ ?_ |simp(disch:=omega) [-zAa,hrtl,hftl,hrl]
  simp(disch:=omega) [-zAa,Aut.c,hf,hrtl,hftl];exact hN.out _<|Nx.mk (k+1) (by simp_all[Aut.c]) (by omega) (by omega)
 ·have:k=a.n:=by omega
  simp_all[zBg,zAa,Aut.c,vV]
end Go.Abs
end
