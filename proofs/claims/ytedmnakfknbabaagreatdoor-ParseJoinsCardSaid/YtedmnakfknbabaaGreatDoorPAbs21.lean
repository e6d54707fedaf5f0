/- Functions that make a pool of their own, and hand. -/
import Derived.Test.YtedmnakfknbabaaGreatDoorPAbs10
set_option linter.all false
set_option maxHeartbeats 0
open Option.some renaming injEq→zAa
open List renaming getElem?_eq_some_iff→zAb
open Option renaming map_eq_some_iff→zAc
open Nat renaming le_refl→zAd
namespace Go.Abs
open Go.RowKit
def m6(g:V->Option V):List V->Option (List V)
 |[]=>some []
 |v::vs=>match g v,m6 g vs with
   |some u,some us=>some (u::us)
   |_,_=>none
def frz(ms:List Po):Nat->V->Option V
 |0,_=>none
 |f+1,.q k j n _ _=>if k=1 then(match ms[j]? with
   |some (.rw _ sz l)=>if n=l.length then(m6 (frz ms f) l).map (.seq sz)else none
   |some (.byt _ s)=>if n=s.length then some (.seq 1 (fL s))else none
   |_=>none)else none
 |f+1,.strct cs=>(m6 (frz ms f) cs).map .strct
 |_+1,.int k n=>some (.int k n)
 |_+1,.bool b=>some (.bool b)
 |_+1,.str s=>some (.str s)
 |_+1,.nil sz=>some (.seq sz [])
 |_+1,.seq sz l=>some (.seq sz l)
 |_+1,.nilptr=>some .nilptr
 |_+1,.niliface=>some .niliface
 |_,_=>none
theorem vJ{g:V->Option V}:∀{vs us:List V},m6 g vs=some us->us.length=vs.length
 |[],us,h=>by simp only[m6,zAa]at h;subst h;rfl
 |v::vs,us,h=>by
   simp only[m6]at h;split at h
   ·rename_i u us' h1 h2
    cases h;simp[vJ h2]
   ·cases h
theorem yO{M M':Mem}{X:V->Value->Prop}{g:V->Option V}(hg:∀v u c,g v=some u->rep M X v c->rep M' NX u c):∀{vs us:List V}{cs:List Value},m6 g vs=some us->ae M X vs cs->ae M' NX us cs
 |[],us,cs,h,hr=>by simp only[m6,zAa]at h;subst h;exact hr
 |v::vs,us,cs,h,hr=>by
   simp only[m6]at h;split at h
   ·rename_i u us' h1 h2
    cases h;simp only[ae]at hr⊢;obtain⟨c,cs',rfl,k1,k2⟩:=hr;exact⟨c,cs',rfl,hg v u c h1 k1,yO hg h2 k2⟩
   ·cases h
theorem G3{M M':Mem}{X:V->Value->Prop}{g:V->Option V}{sz:Nat}(hg:∀v u c,g v=some u->rep M X v c->rep M' NX u c):∀{vs us:List V}{xs:List Value},m6 g vs=some us->az M X sz vs xs->ap M' sz us xs
 |[],us,xs,h,hr=>by simp only[m6,zAa]at h;subst h;exact hr
 |v::vs,us,xs,h,hr=>by
   simp only[m6]at h;split at h
   ·rename_i u us' h1 h2
    cases h;simp only[az,ap]at hr⊢;obtain⟨y,rest,rfl,k1,k2,k3,k4⟩:=hr;exact⟨y,rest,rfl,hg v u y h1 k1,k2,k3,G3 hg h2 k4⟩
   ·cases h
section
variable{P:Program}{N:Nat}{M0:Mem}{B:Bas}{w0:World}{κ:Kap}{M:Mem}{σ:St}{a:Act}{w:World}
theorem Ej(H:Rel N M0 B w0 κ M σ a w){ms:List Po}(hp:σ.h[0]?=some (some (.pool ms)))(hM:∀p v,M p=some v->ext M w (jq κ [0]) p=some v):∀(F:Nat)(X:V->Value->Prop),(∀v c,X v c->XX κ σ.h v c)->∀v u c,frz ms F v=some u->rep M X v c->rep (ext M w (jq κ [0])) NX u c
 |0,X,hX,v,u,c,h,hr=>by simp[frz]at h
 |F+1,X,hX,v,u,c,h,hr=>by
   obtain⟨_,hpo,hdis,hown,hbl,_⟩:=H.heap 0 _ hp
   have hcell:∀{g:Nat}{p:Addr}{x:Value},κ.bl 0 g->p.block=g->w.cell? p=some x->ext M w (jq κ [0]) p=some x:=fun{g p x} h1 h2 h3=>by
    unfold ext;rw[if_pos (dx.2 ⟨0,by simp,by rw[h2];exact h1⟩)]
    exact h3
   cases v with
   |q k j n i off=>
     simp only[frz]at h;split at h
     ·rename_i hk
      subst hk;have hx:=hX _ _ (by simpa only[rep]using hr)
      simp only[XX]at hx;have hq:=hx.2.2 ms hp;split at h
      ·rename_i e sz l hj
       split at h
       ·rename_i hn
        subst hn;simp only[zAc]at h;obtain⟨us,hus,rfl⟩:=h;simp only[qAt,hj]at hq;have hck:=(hq.1 trivial).2 trivial;obtain⟨hsz,hlen,xs,ho,hrow⟩:=hpo j _ hj;have hrow':ap (ext M w (jq κ [0])) sz us xs:=G3 (fun v u c h1 h2=>Ej H hp hM F (PX (XX κ σ.h)) (fun v c h=>Qm v c h) v u c h1 h2) hus hrow;have hul:=vJ hus;simp only[rep];rcases ho.2 with⟨h4,h5⟩|⟨g,cap,cur,h4,h5,h6,h7,h8,h9⟩
        ·exact⟨none,0,by rw[hck,h4,hul,h5],by omega,by omega,hsz,.inl (List.eq_nil_of_length_eq_zero (by omega))⟩
        ·refine⟨some ⟨g,0,none⟩,cap,by rw[hck,h4,hul],by omega,by omega,hsz,.inr ⟨g,0,rfl,?_⟩⟩
         refine kg (fun _ _ h=>h) 0 hrow' fun q x hq'=>?_;have h10:=ho.cells (g:=g) (by rw[h4];rfl) q x hq'
         rw[Addr.add_lit]at h10;exact hcell ((hbl g).2 ⟨j,_,hj,rfl,by rw[h4];rfl⟩) rfl h10
       ·cases h
      ·rename_i e0 s hj
       split at h
       ·rename_i hn
        subst hn;cases h;simp only[qAt,hj]at hq;have hck:=(hq.1 trivial).2 trivial;obtain⟨hl0,hcase⟩:=hpo j _ hj;have hbl':(fL s).length=s.length:=by rw[u4,List.length_map]
        simp only[rep];rcases hcase with⟨rfl,h1⟩|⟨hne,g,cap,cur,T,fz,h1,h2,_,_,h4,h5,h6,h7⟩
        ·exact⟨none,0,by rw[hck,h1];rfl,zAd _,by simp[fL],by decide,.inl rfl⟩
        refine⟨some ⟨g,0,none⟩,cap,by rw[hck,h1,hbl'],by rw[hbl'];exact h4,by rw[hbl'];exact hl0,by decide,.inr ⟨g,0,rfl,?_⟩⟩
        refine u3 s 0 fun q b hb=>?_;refine hcell ((hbl g).2 ⟨j,_,hj,rfl,by rw[h1];rfl⟩) rfl ?_
        rw[cell_of_row w g _ cur T fz h2,Nat.zero_add];have hlt:=(zAb.1 hb).1;have h8:(cur.toList.take s.length)[q]?=some (Value.int .u8 b.toNat):=by rw[h7];simp[hb]
        rw[List.getElem?_take,if_pos hlt]at h8;simpa using h8
       ·cases h
      ·cases h
     ·cases h
   |strct cs=>
     simp only[frz,zAc]at h;obtain⟨us,hus,rfl⟩:=h;simp only[rep]at hr⊢;obtain⟨arr,rfl,h2,h3⟩:=hr;exact⟨arr,rfl,yO (fun v u c h1 h2=>Ej H hp hM F X hX v u c h1 h2) hus h2,h3⟩
   |int k n=>simp only[frz,zAa]at h;subst h;exact ax (X:=X) hM (fun _ _ h=>h) _ _ hr |> fun h=>by simpa only[rep]using h
   |bool b=>simp only[frz,zAa]at h;subst h;simpa only[rep]using hr
   |str s=>simp only[frz,zAa]at h;subst h;simpa only[rep]using hr
   |nil sz=>
     simp only[frz,zAa]at h;subst h;simp only[rep]at hr⊢;exact⟨none,0,hr.1,by simp,by simp,hr.2,.inl trivial⟩
   |seq sz l=>simp only[frz,zAa]at h;subst h;exact ax hM (X:=NX) (fun _ _ h=>h) _ _ (by simpa only[rep]using hr)
   |nilptr=>simp only[frz,zAa]at h;subst h;simpa only[rep]using hr
   |niliface=>simp only[frz,zAa]at h;subst h;simpa only[rep]using hr
   |_=>simp[frz]at h
theorem Pj(H:Rel N M0 B w0 κ M σ a w){ms:List Po}(hp:σ.h[0]?=some (some (.pool ms)))(hM:∀p v,M p=some v->ext M w (jq κ [0]) p=some v){F:Nat}{vs us:List V}{cs:List Value}(h:m6 (frz ms F) vs=some us)(hr:ae M (XX κ σ.h) vs cs):ae (ext M w (jq κ [0])) NX us cs:=
 yO (fun v u c h1 h2=>Ej H hp hM F (XX κ σ.h) (fun _ _ h=>h) v u c h1 h2) h hr
end
def JO(rs:List RV)(r:V):Ex->St->Prop:=fun e σ=>(match e with
    | .exit _=>False
    | .goto _=>False
    |_=>True)/\match σ.rvs rs with
    |some vs=>∃ms F ws,σ.pl?=some ms/\m6 (frz ms F) vs=some ws/\jc ws=r
    |none=>False
section
variable{P:Program}
theorem FnE.of_WQ{f:FuncId}{fn:Func}{c:Code}{us:List V}{r:V}{x:AC}{rs:List RV}(hm:P.follows .mixedOrders=true)(hf:P.funcs[f]?=some fn)(hb:fn.body=some c)
 (hn:(fn.name == "runtime.NumGoroutine")=false) (hc:LC P fn.ntmps [] c x) (hr:tU P fn.results.toList=some rs) (hs:us.length<=fn.ntmps)
 (hW:oks us->W (Cn P) x (JO rs r) ⟨ent 0 us,[some (.pool [])]⟩):FnE P f us r where
 call:=fun args w=>by
  unfold callFunc;simp only[beq_eq_false_iff_ne,ne_eq]at hn;simp[Sem.run_bind,hf,hb,hn]
 does:=fun M w cs hM hus=>by
  have hl:cs.size=us.length:=by have:=aB hus;simpa using this
  refine calls_of_wp hf hb ?_
  have H:Rel fn.ntmps M ⟨w.heap.size,fun _=>False,[],#[],w.heap.size,noJ,[],fun _ _ _ _ _ _=>False⟩ w ⟨fun _=>undef,fun _ _=>undef,fun _ _=>False,fun _=>none⟩ M ⟨ent 0 us,[some (.pool [])]⟩ { tmps:=cs++Array.replicate (fn.ntmps-cs.size) undef,defers:=[] } w:=
   { dfr:=rfl,jst:=l9 rfl,pin:=fun i hi=>by cases hi
     size:=by simp;omega
     regs:=fun t v ht=>by
      obtain⟨_,h2⟩:=uA ht;simp only[Nat.sub_zero]at h2;have hlt:t<us.length:=(zAb.1 h2).1;obtain⟨c,h3,h4⟩:=cI hus h2;refine⟨by omega,c,?_,ax (fun _ _ h=>h) (fun _ _ h=>h.elim) _ _ h4⟩
      rw[Array.getElem?_append_left (by omega)]
      simpa using h3
     heap:=fun id ob h=>by
      cases id with
      |succ id=>simp at h
      |zero=>
        simp at h;subst h;simp only[aG];exact⟨trivial,fun j m hm=>by simp at hm,fun i j m m' g hm=>by simp at hm,fun g hg=>hg.elim,fun g=>⟨fun h=>h.elim,fun⟨j,m,hm,_⟩=>by simp at hm⟩,fun k j n i off c h=>h.elim⟩
     inj:=fun i j oi oj g h h' hg=>hg.elim
     snd:=hM.snd
     sep:=fun p v _ id ob h hg=>hg
     sub:=⟨fun _ _ h=>h,fun _ _ h=>(by cases h),fun _ _ h=>(by cases h),zAd _,hM.gl⟩
     new:=fun _ _ h=>.inl h
     base:=rfl
     blw:=Und.refl _ _ }
  refine r7 (nk hm (ma rfl) (B:=⟨w.heap.size,fun _=>False,[],#[],w.heap.size,noJ,[],fun _ _ _ _ _ _=>False⟩) hc ?_ H (hW (du hus)));intro e κ M1 σ a w1 hR H1;simp only[JO]at hR;obtain⟨he,hR⟩:=hR;split at hR
  ·rename_i vs hvs
   obtain⟨ms,F,ws,hms,hws,hR⟩:=hR
   ·have hp:=cC hms
    obtain⟨ds,k1,k2⟩:=iL hr H1 hvs;obtain⟨H2,hM1⟩:=H1.kill [0] (fun id hid=>by simp at hid;subst hid;exact⟨_,hp⟩)
    have k3:ae (ext M1 w1 (jq κ [0])) NX ws ds:=Pj H1 hp hM1 hws k1
    have fin:bodyPost P fn (fun e w'=>∃(c:Value)(M':Mem),e=.returned c/\rep M' NX r c/\Below w.heap.size w w'/\(∀p v,M' p=some v->w'.cell? p=some v)/\
     (∀p v,M p=some v->M' p=some v)/\∀p v,M' p=some v->M p=some v\/w.heap.size<=p.block) .normal a w1:=by
     refine⟨H1.dfr,_,k2,_,_,rfl,?_,⟨H1.blw.os,H1.blw.tape,H1.blw.output,H1.blw.size,fun k hk=>H1.blw.block k hk id⟩,H2.snd,H2.sub.sub,fun p v h=>(H2.new p v h).imp_right fun h=>h.elim id False.elim⟩;subst hR
     match ws,ds,k3 with
     |[],[],k3=>simp only[jc,rep];exact⟨#[],rfl,by simp[ae]⟩
     |[v],[d],k3=>
       simp only[ae]at k3;obtain⟨_,_,h1,h2,_⟩:=k3;cases h1;simpa[jc]using h2
     |v::v'::vs',d::d'::ds',k3=>
       have e:(if h:(d::d'::ds').length=1 then(d::d'::ds')[0]else .tuple (d::d'::ds').toArray)=.tuple (d::d'::ds').toArray:=dif_neg (by simp)
       rw[e];simp only[jc,rep];exact⟨_,rfl,by simpa using k3⟩
     |[],d::ds,k3=>simp[ae]at k3
     |v::vs,[],k3=>simp[ae]at k3
     |[v],d::d'::ds,k3=>simp[ae]at k3
     |v::v'::vs,[d],k3=>
       simp only[ae]at k3;obtain⟨c,cs',h1,_,c2,cs2,h2,_⟩:=k3;cases h1;cases h2
    cases e with
    |norm=>exact fin
    |ret=>exact fin
    |exit id=>exact he.elim
    |goto l=>exact he.elim
  ·exact hR.elim
theorem FnE.of_imageQ{f:FuncId}{fn:Func}{E:List Nat}{us:List V}{r:V}{x:AC}{K:List (List Nat)}{rs:List RV}{n:Nat}(hm:P.follows .mixedOrders=true)(hf:P.funcs[f]?=some fn)
 (hi:aP P fn [] E K n=some (x,rs)) (hn:us.length=n) (hW:oks us->W (Cn P) x (JO rs r) ⟨ent 0 us,[some (.pool [])]⟩):FnE P f us r:=by
 unfold aP at hi;split at hi
 ·split at hi
  ·split at hi
   ·rename_i hc
    cases hi;exact FnE.of_WQ hm hf ‹_› hc.1 (eN ‹_›) ‹_› (by rw[hn];exact hc.2.1) hW
   ·cases hi
  ·cases hi
 ·cases hi
end
def Ka(r:V)(σ:St)(vs:List V):Prop:=∃ms F ws,σ.pl?=some ms/\m6 (frz ms F) vs=some ws/\jc ws=r
theorem MX{rs:List RV}{r:V}{σ:St}:JO rs r .norm σ=oM (σ.rvs rs) (Ka r σ):=by
 unfold JO oM;cases σ.rvs rs<;>simp[Ka]
theorem Qg{rs:List RV}{r:V}{σ:St}:JO rs r .ret σ=oM (σ.rvs rs) (Ka r σ):=by
 unfold JO oM;cases σ.rvs rs<;>simp[Ka]
attribute [simp] MX Qg
end Go.Abs
