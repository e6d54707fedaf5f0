/- A call that hands back the address of a variable that it made, as a call that hands back plain data. No condition. -/
import Derived.Test.YtedmnakfknbabaaGreatDoorAAbs9
import Derived.RangeFuncRecord
set_option linter.all false
set_option maxHeartbeats 0
open Array renaming getElem?_eq_some_iff→zAa,getElem?_append_left→zAe,replicate→zBa
open List renaming getElem?_eq_some_iff→zAb,mem_cons_of_mem→zAc,drop_eq_nil_iff→zAg,mem_of_getElem?→zAh
open Nat renaming le_refl→zAd,zero_le→zAf,le_trans→zAi,not_lt_zero→zAj,sub_zero→zBb
open Iff renaming rfl→zBc
open Option.some renaming injEq→zBd
section
namespace Go.Abs
open Go.RowKit
theorem Heap.boxed{P:Program}{J:Nat->List (V×Bool)->(Nat->Prop)->Mem->World->Prop}{κ:Kap}{κ0:Kap}{M:Mem}{w w':World}{ca:Array Value}{H':List (Option Ob)}(h:Heap κ M (cW κ0 [] w [] ca J) w' H')(hu:Und (cW κ0 [] w [] ca J) w w'){cs cs':List V}{id:Nat}{c:Value}
 (hb:H'[id]?=some (some (.box cs))) (hp:purs H' cs=some cs') (hr:rep M (XX κ H') (.ptr id 0) c):
 ∃M',(∀p v,M p=some v->M' p=some v)/\(∀p v,M' p=some v->w'.cell? p=some v)/\(∀p v,M' p=some v->M p=some v\/w.heap.size<=p.block)/\rep M' NX (.sptr (.strct cs') 0) c:=by
 have H:Rel 0 M (cW κ0 [] w [] ca J) w κ M ⟨[],H'⟩ { tmps:=#[],defers:=[] } w':=
  { dfr:=rfl,jst:=h.jst,pin:=fun i hi=>(by cases hi),size:=rfl,regs:=fun t v ht=>(by simp[lk]at ht),heap:=h.heap,inj:=h.inj,snd:=h.snd,sep:=h.sep
    sub:=⟨fun _ _ h=>h,h.fmS,fun _ _ _=>zAf _,zAf _,h.gl⟩,new:=fun _ _ h=>.inl h,base:=rfl,blw:=hu }
 obtain⟨ids,l7⟩:∃ids,ids=id::ah cs:=⟨_,rfl⟩
 obtain⟨H2,hM⟩:=H.kill ids (fun i hi=>by
  rw[l7]at hi;rcases List.mem_cons.1 hi with rfl|hi
  ·exact⟨_,hb⟩
  ·exact cL hp i hi)
 have hob:=h.heap id _ hb;simp only[aA]at hob;obtain⟨b,arr,T,h1,h2,h3,h4,h5,h6⟩:=hob;simp only[rep,XX]at hr;obtain⟨b',e1,e2⟩:=hr.2.2 _ hb;rw[h1]at e1;cases e1;refine⟨ext M w' (fu κ ids),hM,H2.snd,fun p v hv=>?_,?_⟩
 ·rcases H2.new p v hv with h|h|⟨i,ob,g1,_⟩
  ·exact .inl h
  ·exact .inr h
  ·simp at g1
 ·have k3:ac (ext M w' (fu κ ids)) NX cs' arr.toList:=by
   refine bg H hM (fun i hi g hg p hpb=>?_) h4 hp;unfold ext;rw[if_pos (bS.2 ⟨i,by rw[l7];exact zAc _ hi,by rw[hpb];exact hg⟩)]
  simp only[rep];refine⟨b,0,.agg arr,by simpa using e2,⟨arr,rfl,k3,h5⟩,h5,fun j hj=>?_⟩
  have hk:fu κ ids b:=bS.2 ⟨id,by rw[l7];simp,(h6 b).2 rfl⟩
  unfold ext;rw[if_pos hk];simp[World.cell?,h3,Value.cells]
theorem FnH.start{M:Mem}{w:World}(h:Snd M w)(ca:Array Value):Heap ⟨fun _=>undef,fun _ _=>undef,fun _ _=>False,fun _=>none⟩ M (cW ⟨fun _=>undef,fun _ _=>undef,fun _ _=>False,fun _=>none⟩ [] w [] ca noJ) w []:=
 { heap:=fun id ob h=>by simp at h,inj:=fun i j oi oj g h=>by simp at h,snd:=h.snd,sep:=fun p v _ id ob h=>by simp at h,fmS:=fun _ _ h=>(by cases h),gl:=h.gl,jst:=iI rfl }
theorem FnH.boxed2{P:Program}{f:FuncId}{us:List V}{H':List (Option Ob)}{cs cs':List V}{x:V}(h:FnH P f [] us [] (.tup [.ptr 0 0,x]) H')(hx:bU x=true)(hb:H'[0]?=some (some (.box cs)))(hp:purs H' cs=some cs'):Fn P f us (.tup [.sptr (.strct cs') 0,x]):=by
 intro M w ca hM hus o a Nx Q hN;refine h M w _ ca noJ (iJ rfl) (FnH.start hM ca) (aC (fun _ _ h=>h) (fun _ _ h=>h.elim) _ _ hus) o a Nx Q ?_;intro c M' w' κ' hr hu hh hM1 hM2 _;simp only[rep,ac]at hr;obtain⟨arr,rfl,c1,cs1,e1,hr1,c2,cs2,e2,hr2,e3⟩:=hr;obtain⟨M2,k1,k2,k3,k4⟩:=hh.boxed (P:=P) hu hb hp (c:=c1) (by simpa only[rep]using hr1)
 refine hN _ M2 w' ?_ ⟨hu.os,hu.tape,hu.output,hu.size,fun k hk=>hu.block k hk (fun⟨i,ob,g1,_⟩=>by simp at g1)⟩ k2 (fun p v h=>k1 p v (hM1 p v h)) (fun p v h=>?_)
 ·simp only[rep,ac]at k4⊢
  exact⟨arr,rfl,c1,_,e1,k4,c2,_,e2,j8 hx hr2,e3⟩
 ·rcases k3 p v h with h|h
  ·rcases hM2 p v h with h|h|⟨i,ob,g1,_⟩
   ·exact .inl h
   ·exact .inr h
   ·simp at g1
  ·exact .inr h
section
variable{P:Program}{N:Nat}{M0:Mem}{B:Bas}{w0:World}{κ:Kap}{M:Mem}{σ:St}{a:Act}{w w':World}
theorem Rel.stay(H:Rel N M0 B w0 κ M σ a w)(hu:Und B w w')(hb:∀g,ez κ σ.h g->w'.heap[g]?=w.heap[g]?)(hs:∀p v,M p=some v->w'.cell? p=some v):Rel N M0 B w0 κ M σ a w':=
 { dfr:=H.dfr,jst:=H.jst,pin:=H.pin,size:=H.size,regs:=H.regs
   heap:=fun id ob h=>cC (fun _ _ h=>h) (fun _ _ h=>h) ⟨rfl,rfl,rfl⟩ (fun g hg=>hb g ⟨id,ob,h,hg⟩) H.jst hu hs (H.heap id ob h)
   inj:=H.inj,snd:=hs,sep:=H.sep,sub:=H.sub,new:=H.new,base:=H.base,blw:=H.blw.trans hu }
def FQ(o:Obj):Prop:=∀c e z,o≠.cells c e z
theorem nY{l:Nat}{o:Obj}(hl:w.heap[l]?=some o)(ho:FQ o){p:Addr}{v:Value}(h:w.cell? p=some v):p.block≠l:=by
 intro e;unfold World.cell? at h;rw[e,hl]at h;cases o<;>first|exact ho _ _ _ rfl|cases h
theorem nb{l:Nat}{o o':Obj}(hl:w.heap[l]?=some o)(ho:FQ o){p:Addr}{v:Value}(h:w.cell? p=some v):(w.putObj l o').cell? p=some v:=by
 rw[World.cell?_of_block (World.putObj_heap_other (nY hl ho h))];exact h
theorem Hq{l:Nat}{o o':Obj}(hl:w.heap[l]?=some o)(ho:FQ o):Siz w (w.putObj l o'):=by
 intro k cur T z hc;have:k≠l:=by rintro rfl;rw[hl]at hc;exact ho _ _ _ (Option.some.inj hc)
 exact⟨cur,T,z,by rw[World.putObj_heap_other this];exact hc,rfl⟩
theorem uo{l:Nat}{o o':Obj}(hl:w.heap[l]?=some o)(ho:FQ o)(hB:B.n<=l):Und B w (w.putObj l o'):=
 ⟨rfl,rfl,rfl,by simp,fun k hk hs=>World.putObj_heap_other (by omega),Hq hl ho⟩
theorem dd{r:Loop}:FQ (.loop r):=fun _ _ _ h=>by cases h
theorem mD{d:Option (List Deferred)}:FQ (.deferred d):=fun _ _ _ h=>by cases h
def St.ids(σ:St)(ks:List Nat):List Nat:=bJ (bJ (bJ (cG σ.h) (FH (pk σ.r ks))) (l7 σ.h (bJ (cG σ.h) (FH (pk σ.r ks))))) (l7 σ.h (bJ (bJ (cG σ.h) (FH (pk σ.r ks))) (l7 σ.h (bJ (cG σ.h) (FH (pk σ.r ks))))))
theorem FP{ks:List Nat}:σ.nrm ks={ r:=xk (σ.ids ks) (pk σ.r ks),h:=fC σ.h (σ.ids ks) (σ.ids ks) }:=rfl
theorem Jx{ks:List Nat}:(σ.ids ks).Nodup:=bz _ _ (bz _ _ (bz _ _ jt))
theorem Rel.nrm'(H:Rel N M0 B w0 κ M σ a w)(ks:List Nat):Rel N M0 B w0 (κ.ren (σ.ids ks)) M (σ.nrm ks) a w:=by
 rw[FP];exact H.ren Jx zF _ (fun t v h=>DQ h)
theorem sd{r:List (Nat×V)}:∀{ks:List Nat}{t:Nat}{v:V},lk (pk r ks) t=some v->t∈ks
 |[],_,_,h=>by simp[pk,lk]at h
 |k::ks,t,v,h=>by
   simp only[pk]at h;split at h
   ·simp only[lk]at h
    split at h
    ·rename_i he;simp[he]
    ·exact zAc _ (sd h)
   ·exact zAc _ (sd h)
theorem F2{ks:List Nat}{t:Nat}{v:V}(h:lk (σ.nrm ks).r t=some v):t∈ks:=by
 rw[FP]at h;obtain⟨u,h1,_⟩:=Bp h;exact sd h1
def Fd(N:Nat)(M0:Mem)(B:Bas)(w0:World)(a:Act)(ks:List Nat)(l D:Nat)(τ:St)(r:Loop)(S:Nat->Prop)(Mm:Mem)(W:World):Prop:=
 ∃κi Mi,Rel N M0 B w0 κi Mi τ a W/\(∀t v,lk τ.r t=some v->t∈ks)/\(∀p v,Mi p=some v->Mm p=some v)/\W.heap[l]?=some (.loop r)/\W.heap[D]?=some (.deferred (some []))/\
   (∀g,S g↔ez κi τ.h g\/g=l\/g=D)/\∀g,ez κi τ.h g->g≠l/\g≠D
theorem Fd.stay{ks:List Nat}{l D:Nat}{τ:St}{r:Loop}{S:Nat->Prop}{Mm Mm':Mem}{W W':World}(h:Fd N M0 B w0 a ks l D τ r S Mm W)(hu:Und B W W')(hS:∀g,S g->W'.heap[g]?=W.heap[g]?)
 (hm:∀p v,Mm p=some v->Mm' p=some v) (hs:∀p v,Mm' p=some v->W'.cell? p=some v):Fd N M0 B w0 a ks l D τ r S Mm' W':=by
 obtain⟨κi,Mi,h1,h2,h3,h4,h5,h6,h7⟩:=h;exact⟨κi,Mi,h1.stay hu (fun g hg=>hS g ((h6 g).2 (.inl hg))) (fun p v hp=>hs p v (hm p v (h3 p v hp))),h2,fun p v hp=>hm p v (h3 p v hp),by rw[hS l ((h6 l).2 (.inr (.inl rfl)))];exact h4,by rw[hS D ((h6 D).2 (.inr (.inr rfl)))];exact h5,h6,h7⟩
def tK:List Nat->List V->List (Nat×V)->List (Nat×V)
 |t::ts,v::vs,r=>tK ts vs ((t,v)::r)
 |_,_,r=>r
theorem Rel.zip:∀{ts:List Nat}{us:List V}{cs:List Value}{r:List (Nat×V)}{h:List (Option Ob)}{T:Array Value},Rel N M0 B w0 κ M ⟨r,h⟩ ⟨T,[]⟩ w->ac M NX us cs->(∀t∈ts,t<N/\t ∉ B.ps)->
 Rel N M0 B w0 κ M ⟨tK ts us r,h⟩ ⟨(ts.zip cs).foldl (fun tmps (x:Nat×Value)=>tmps.setIfInBounds x.1 x.2) T,[]⟩ w
 |[],us,cs,r,h,T,H,_,_=>by cases us<;>simpa[tK]using H
 |t::ts,[],cs,r,h,T,H,hu,_=>by
   simp only[ac]at hu;subst hu;simpa[tK]using H
 |t::ts,u::us,cs,r,h,T,H,hu,ht=>by
   simp only[ac]at hu;obtain⟨c,cs',rfl,h1,h2⟩:=hu;have:=H.put (d:=t) (ht t (by simp)) (ay (X:=XX κ h) h1)
   simp only[tK,List.zip_cons_cons,List.foldl_cons];exact Rel.zip (this:Rel N M0 B w0 κ M ⟨(t,u)::r,h⟩ ⟨T.setIfInBounds t c,[]⟩ w) h2 fun t' h'=>ht t' (by simp[h'])
def AX(κi:Kap)(h:List (Option Ob))(W:World)(ks:List Nat)(cs:Array Value)(fb:Nat)(gq:Nat->Nat->Nat->Nat->Nat->Value->Prop):Bas:=⟨W.heap.size,ez κi h,ks,cs,fb,noJ,[],gq⟩
structure Calm (w w':World):Prop where
 os:w'.os=w.os
 tape:w'.tape=w.tape
 output:w'.output=w.output
 size:w.heap.size<=w'.heap.size
 siz:Siz w w'
theorem Calm.refl(w:World):Calm w w:=⟨rfl,rfl,rfl,zAd _,fun _ cur T z h=>⟨cur,T,z,h,rfl⟩⟩
theorem Calm.trans{w1 w2 w3:World}(h:Calm w1 w2)(k:Calm w2 w3):Calm w1 w3:=
 ⟨k.os.trans h.os,k.tape.trans h.tape,k.output.trans h.output,zAi h.size k.size,fun i cur T z hc=>by
   obtain⟨c1,T1,z1,h1,e1⟩:=h.siz i cur T z hc;obtain⟨c2,T2,z2,h2,e2⟩:=k.siz i c1 T1 z1 h1;exact⟨c2,T2,z2,h2,e2.trans e1⟩⟩
theorem Calm.of_und(h:Und B w w'):Calm w w':=⟨h.os,h.tape,h.output,h.size,h.siz⟩
theorem wX{l:Nat}{o o':Obj}(hl:w.heap[l]?=some o)(ho:FQ o):Calm w (w.putObj l o'):=⟨rfl,rfl,rfl,by simp,Hq hl ho⟩
theorem fE{B':Bas}{M':Mem}{X:V->Value->Prop}{id:Nat}{ob:Ob}(hJ:B.J=noJ)(hM:∀p v,M p=some v->M' p=some v)(hw:∀g,κ.bl id g->w'.heap[g]?=w.heap[g]?)(hc:Calm w w')(hs:∀p v,M' p=some v->w'.cell? p=some v)(ho:∀g,κ.bl id g->B'.own g)(hJ':B'.J=noJ)(hgq:B'.gq=B.gq)
 (h:aA κ M X B w id ob):aA κ M' X B' w' id ob:=by
 have h1:aA κ M X ⟨0,fun _=>True,[],#[],0,noJ,[],B.gq⟩ w id ob:=bW (B:=B) (fun g hg=>.inl (zAf _)) hJ.symm (fun ms e=>by subst e;exact h.2.2.2.2.2) h
 have h2:aA κ M' X ⟨0,fun _=>True,[],#[],0,noJ,[],B.gq⟩ w' id ob:=cC hM (fun _ _ h=>h) ⟨rfl,rfl,rfl⟩ hw (iI rfl) ⟨hc.os,hc.tape,hc.output,hc.size,fun k hk=>absurd hk (zAj _),hc.siz⟩ hs h1;exact bW (B':=B') ho hJ' (fun ms e=>by subst e;rw[hgq];exact h2.2.2.2.2.2) h2
theorem Rel.rnd{κi:Kap}{Mi Mm:Mem}{τ:St}{W W':World}{ks:List Nat}{cs:Array Value}(hJ:B.J=noJ)(H:Rel N M0 B w0 κi Mi τ a W)(hpin:∀i,i∈ks->a.tmps[i]?=cs[i]?)(hc:Calm W W')(hb:∀g,ez κi τ.h g->W'.heap[g]?=W.heap[g]?)
 (hm:∀p v,Mi p=some v->Mm p=some v) (hMs:Snd Mm W') (hsep:∀p v,Mm p=some v->¬ez κi τ.h p.block):Rel N Mm (AX κi τ.h W' ks cs B.fb B.gq) W' κi Mm τ ⟨a.tmps,[]⟩ W':=
 { dfr:=rfl
   jst:=iI rfl
   pin:=hpin
   size:=H.size
   regs:=fun t v ht=>let ⟨h1,c,h2,h3⟩:=H.regs t v ht;⟨h1,c,h2,aq hm (fun _ _ h=>h) _ _ h3⟩
   heap:=fun id ob h=>fE hJ hm (fun g hg=>hb g ⟨id,ob,h,hg⟩) hc hMs.snd (fun g hg=>.inr ⟨id,ob,h,hg⟩) rfl rfl (H.heap id ob h)
   inj:=H.inj,snd:=hMs.snd
   sep:=fun p v hp id ob h hg=>hsep p v hp ⟨id,ob,h,hg⟩
   sub:=⟨fun _ _ h=>h,fun p v h=>hm p v (H.sub.fmS p v h),H.sub.fmN,zAi H.sub.fbn (by show B.n<=W'.heap.size;rw[H.base];exact zAi H.blw.size hc.size),hMs.gl⟩
   new:=fun _ _ h=>.inl h
   base:=rfl
   blw:=Und.refl _ _ }
structure Mid (S:Nat->Prop) (l:Nat) (Mm:Mem) (W:World) (B2:Bas) (M1:Mem) (W1:World):Prop where
 calm:Calm W W1
 block:∀g,g<W.heap.size->¬S g->g≠l->W1.heap[g]?=W.heap[g]?
 own:∀g,B2.own g->W.heap.size<=g\/S g
 mem:∀p v,Mm p=some v->M1 p=some v
 new:∀p v,M1 p=some v->Mm p=some v\/W.heap.size<=p.block\/S p.block
theorem Mid.refl{κi:Kap}{h:List (Option Ob)}{l:Nat}{Mm:Mem}{W:World}{ks:List Nat}{cs:Array Value}{fb:Nat}{gq:Nat->Nat->Nat->Nat->Nat->Value->Prop}:Mid (ez κi h) l Mm W (AX κi h W ks cs fb gq) Mm W:=
 ⟨Calm.refl _,fun _ _ _ _=>rfl,fun g h=>h,fun _ _ h=>h,fun _ _ h=>.inl h⟩
theorem Mid.next{S:Nat->Prop}{l:Nat}{Mm M1 M2:Mem}{W W1 W2 W':World}{B2:Bas}{κ2:Kap}{τ2:St}{a2:Act}{ks:List Nat}{cs:Array Value}{fb:Nat}{gq:Nat->Nat->Nat->Nat->Nat->Value->Prop}(h:Mid S l Mm W B2 M1 W1)(H:Rel N M1 B2 W1 κ2 M2 τ2 a2 W2)(hc:Calm W2 W')(hb:∀g,g≠l->W'.heap[g]?=W2.heap[g]?):
 Mid S l Mm W (AX κ2 τ2.h W' ks cs fb gq) M2 W':=by
 have ho:∀g,B2.own g->W.heap.size<=g\/S g:=h.own;refine⟨(h.calm.trans (.of_und H.blw)).trans hc,fun g hg hS hl=>?_,fun g hg=>?_,fun p v hp=>H.sub.sub p v (h.mem p v hp),fun p v hp=>?_⟩
 ·have hn:B2.n=W1.heap.size:=H.base
  rw[hb g hl,H.blw.block g (by rw[hn];have:=h.calm.size;omega) (fun hs=>(ho g (.inr hs)).elim (fun h=>by omega) hS)]
  exact h.block g hg hS hl
 ·rcases hg with hg|⟨id,ob,h1,h2⟩
  ·have hg:W'.heap.size<=g:=hg
   have:=h.calm.size;have:=H.blw.size;have:=hc.size;exact .inl (by omega)
  ·exact ho g (H.blk_lt h1 h2).1
 ·rcases H.new p v hp with h1|h1
  ·exact h.new p v h1
  ·exact .inr (ho _ h1)
theorem Rel.unrnd{κi κ2:Kap}{Mi Mm M1 M2:Mem}{τ τ2:St}{W W1 W2:World}{ks:List Nat}{a2:Act}{B2:Bas}{l:Nat}(hJ:B.J=noJ)(H:Rel N M0 B w0 κi Mi τ a W)(hm:∀p v,Mi p=some v->Mm p=some v)(hnew:∀p v,Mm p=some v->M0 p=some v\/B.own p.block)(hl:B.n<=l)
 (h:Mid (ez κi τ.h) l Mm W B2 M1 W1) (hps:B2.ps=ks) (hcs:B2.cs=a.tmps) (hfb:B2.fb=B.fb/\B2.gq=B.gq) (hJ2:B2.J=noJ) (H2:Rel N M1 B2 W1 κ2 M2 τ2 a2 W2) (hk:∀t v,lk τ2.r t=some v->t∈ks):Rel N M0 B w0 κ2 M2 τ2 a W2:=by
 have hBn:B.n<=W.heap.size:=by rw[H.base];exact H.blw.size
 have ho:∀g,B2.own g->B.own g:=fun g hg=>(h.own g hg).elim (fun h=>.inl (by omega)) fun⟨id,ob,h1,h2⟩=>(H.blk_lt h1 h2).1
 have hu1:Und B W W1:=⟨h.calm.os,h.calm.tape,h.calm.output,h.calm.size,fun k hk hs=>h.block k (by omega) (fun⟨id,ob,h1,h2⟩=>(H.blk_lt h1 h2).1.elim (fun h=>by omega) hs) (by omega),h.calm.siz⟩
 have hu2:Und B W1 W2:=⟨H2.blw.os,H2.blw.tape,H2.blw.output,H2.blw.size,fun k hk hs=>H2.blw.block k (by rw[H2.base];have:=h.calm.size;omega) (fun h2=>(ho k (.inr h2)).elim (fun h=>by omega) hs),H2.blw.siz⟩
 exact
 { dfr:=H.dfr,jst:=H.jst,pin:=H.pin,size:=H.size
   regs:=fun t v ht=>by
    obtain⟨h1,c,h2,h3⟩:=H2.regs t v ht;rw[H2.pin t (by rw[hps];exact hk t v ht),hcs]at h2
    exact⟨h1,c,h2,h3⟩
   heap:=fun id ob h=>bW (B:=B2) (fun g hg=>ho g (H2.blk_lt h hg).1) (by rw[hJ,hJ2]) (fun ms e=>by subst e;rw[<-hfb.2];exact(H2.heap id _ h).2.2.2.2.2) (H2.heap id ob h)
   inj:=H2.inj,snd:=H2.snd,sep:=H2.sep
   sub:=⟨fun p v hp=>H2.sub.sub p v (h.mem p v (hm p v (H.sub.sub p v hp))),H2.sub.fmS,fun p v hp=>by rw[<-hfb.1];exact H2.sub.fmN p v hp,H.sub.fbn,H.sub.gl⟩
   new:=fun p v hp=>(H2.new p v hp).elim (fun h1=>(h.new p v h1).elim (hnew p v) fun h2=>.inr (h2.elim (fun h=>.inl (by omega)) fun⟨id,ob,h1,h2⟩=>(H.blk_lt h1 h2).1)) fun h=>.inr (ho _ h)
   base:=H.base
   blw:=(H.blw.trans hu1).trans hu2 }
theorem Df(hmx:P.follows .mixedOrders=true)(hJ:B.J=noJ){ρ:Option Nat}{ks:List Nat}{ps:Array Nat}{assign body:Code}{xa xb:AC}(hLa:LC P N ks assign xa)(hLb:LC P N ks body xb){κi:Kap}{Mi Mm:Mem}{τ:St}{w1:World}{l D fnid:Nat}{r:Loop}
 (H:Rel N M0 B w0 κi Mi τ a w1) (hm:∀p v,Mi p=some v->Mm p=some v) (hl:w1.heap[l]?=some (.loop r)) (hlD:∀g,ez κi τ.h g->g≠l/\g≠D) (hr:r.state=.ready)
 (hMs:Snd Mm w1) (hsep:∀p v,Mm p=some v->¬ez κi τ.h p.block)
 {us:List V} {cs:Array Value} (hus:ac Mm NX us cs.toList) (hps:∀t∈ps.toList,t<N/\t ∉ ks) {R:Ending->World->Prop} {post:Ex->St->Prop}
 (hW:W (Cn P) xa (Ex.then (W (Cn P) xb post) (fun _ _=>False)) ⟨tK ps.toList us τ.r,τ.h⟩)
 (hpost:∀e τ2 κ2 M1 M2 a2 W1 W2 B2,post e τ2->Mid (ez κi τ.h) l Mm w1 B2 M1 W1->B2.ps=ks->B2.cs=a.tmps->(B2.fb=B.fb/\B2.gq=B.gq)->B2.J=noJ->Rel N M1 B2 W1 κ2 M2 τ2 a2 W2->W2.heap[l]?=some (.loop { r with state:=.busy })->roundPost P l R e.out a2 W2):
 RoundIn (FR ρ) 0 P l fnid ((ps.zip cs).foldl (fun tmps (x:Nat×Value)=>tmps.setIfInBounds x.1 x.2) a.tmps) assign body w1 R:=by
 have H0:Rel N Mm (AX κi τ.h w1 ks a.tmps B.fb B.gq) w1 κi Mm τ ⟨a.tmps,[]⟩ w1:=H.rnd hJ (fun _ _=>rfl) (Calm.refl _) (fun _ _=>rfl) hm hMs hsep;have H1:=Rel.zip H0 hus hps
 have e1:(ps.zip cs).foldl (fun tmps (x:Nat×Value)=>tmps.setIfInBounds x.1 x.2) a.tmps=(ps.toList.zip cs.toList).foldl (fun tmps (x:Nat×Value)=>tmps.setIfInBounds x.1 x.2) a.tmps:=by
  rw[<-Array.foldl_toList,Array.toList_zip]
 rw[e1];have hll:l<w1.heap.size:=(zAa.1 hl).1;have hnl:¬ez κi τ.h l:=fun h=>(hlD l h).1 rfl;refine roundIn_of_wpIn (F:=FR ρ) trivial (lx (ρ:=some l) hmx (iJ rfl) (B:=AX κi τ.h w1 ks a.tmps B.fb B.gq) hLa ?_ H1 hW);intro e κa Ma τa aa Wa hR Ha;cases e with
 |norm=>
   have hla:Wa.heap[l]?=some (.loop r):=by rw[Ha.blw.block l hll hnl];exact hl
   refine⟨_,run_beginRound hla hr,?_⟩;have hnl2:¬ez κa τa.h l:=fun⟨id,ob,h1,h2⟩=>(Ha.blk_lt h1 h2).1.elim (fun h=>absurd h (Nat.not_le.2 hll)) hnl;have hcp:Calm Wa (Wa.putObj l (.loop { r with state:=.busy })):=wX hla dd
   have hsn:∀p v,Ma p=some v->(Wa.putObj l (.loop { r with state:=.busy })).cell? p=some v:=fun p v hp=>nb hla dd (Ha.snd p v hp)
   have Hb:Rel N Ma (AX κa τa.h (Wa.putObj l (.loop { r with state:=.busy })) ks a.tmps B.fb B.gq) (Wa.putObj l (.loop { r with state:=.busy })) κa Ma τa ⟨aa.tmps,[]⟩ (Wa.putObj l (.loop { r with state:=.busy })):=
    Rel.rnd (B:=AX κi τ.h w1 ks a.tmps B.fb B.gq) rfl Ha Ha.pin hcp (fun g hg=>World.putObj_heap_other (fun e=>hnl2 (e ▸ hg))) (fun _ _ h=>h) ⟨hsn,Ha.sub.gl.mono Ha.sub.sub⟩ (fun p v hp ⟨id,ob,h1,h2⟩=>Ha.sep p v hp id ob h1 h2)
   have ea:aa=⟨aa.tmps,[]⟩:=by have:=Ha.dfr;cases aa;simp only at this;rw[this];rfl
   rw[ea];have hMid:Mid (ez κi τ.h) l Mm w1 (AX κa τa.h (Wa.putObj l (.loop { r with state:=.busy })) ks a.tmps B.fb B.gq) Ma (Wa.putObj l (.loop { r with state:=.busy })):=Mid.refl.next Ha hcp (fun g hg=>World.putObj_heap_other hg)
   refine lx (ρ:=some l) hmx (iJ rfl) (B:=AX κa τa.h (Wa.putObj l (.loop { r with state:=.busy })) ks a.tmps B.fb B.gq) hLb ?_ Hb hR
   intro e κ2 M2 τ2 a2 W2 hp H2;refine hpost e τ2 κ2 Ma M2 a2 _ W2 _ hp hMid rfl rfl ⟨rfl,rfl⟩ rfl H2 ?_;have hl3:l<Wa.heap.size:=(zAa.1 hla).1;rw[H2.blw.block l (by show l<(Wa.putObj l _).heap.size;simpa using hl3) hnl2]
   exact World.putObj_heap_same hl3
 |exit id=>exact hR.elim
 |goto l=>exact hR.elim
 |ret=>exact hR.elim
end
section
variable{P:Program}{N:Nat}{M0:Mem}{B:Bas}{w0:World}{κ:Kap}{M:Mem}{σ:St}{a:Act}{w w':World}
def Fb(st:Nat->St)(stx:St)(ks:List Nat)(i:Nat)(b:Bool):Ex->St->Prop
 | .norm,τ=>b=true/\∃ms τ',τ.mats ms=some τ'/\τ'.nrm ks=st (i+1)
 | .ret,τ=>b=false/\∃ms τ',τ.mats ms=some τ'/\τ'.nrm ks=stx
 |_,_=>False
def mK(fn:FuncId)(a:Act)(ps:Array Tmp)(assign body:Code)(D:Nat)(s:LoopState)(p:Option Code):Loop:={ state:=s,pending:=p,fn,tmps:=a.tmps,params:=ps,assign,body,defers:=D }
def UQ(N:Nat)(M0:Mem)(B:Bas)(w0:World)(a:Act)(ks:List Nat)(l D:Nat)(full:List (V×Bool))(st:Nat->St)(stx:St)(rec:LoopState->Option Code->Loop):Nat->List (V×Bool)->(Nat->Prop)->Mem->World->Prop:=fun k ann S Mm W=>k=l/\
 ((∃i,ann=full.drop i/\i<=full.length/\(∀(j:Nat)(v:V)(b:Bool),j<i->full[j]?=some (v,b)->b=true)/\Fd N M0 B w0 a ks l D (st i) (rec .ready none) S Mm W)\/
  (ann=[]/\(∃(j:Nat)(v:V),full[j]?=some (v,false))/\Fd N M0 B w0 a ks l D stx (rec .done (some .ret)) S Mm W))
theorem zy {ks:List Nat} {κi κ2:Kap} {Mi Mm M1 M2:Mem} {τ τ2:St} {W1 W2:World} {a2:Act} {B2:Bas} {l D:Nat} {S:Nat→Prop} {r r2:Loop} (hJ:B.J=noJ) (H:Rel N M0 B w0 κi Mi τ a w) (hm:∀ p v,Mi p=some v→Mm p=some v)
 (hnew:∀ p v,Mm p=some v→M0 p=some v∨B.own p.block) (hl:B.n≤l) (hld:l≠D) (hS:∀ g,S g↔ez κi τ.h g∨g=l∨g=D) (hlD:∀ g,ez κi τ.h g→g≠l∧g≠D) (hlw:l < w.heap.size) (hD:w.heap[D]?=some (.deferred (some [])))
 (h:Mid (ez κi τ.h) l Mm w B2 M1 W1) (hps:B2.ps=ks) (hcs:B2.cs=a.tmps) (hfb:B2.fb=B.fb∧B2.gq=B.gq) (hJ2:B2.J=noJ) (H2:Rel N M1 B2 W1 κ2 M2 τ2 a2 W2) (hk:∀ t v,lk τ2.r t=some v→t∈ks) (hl2:W2.heap[l]?=some (.loop r)):
 Fd N M0 B w0 a ks l D τ2 r2 (fun g=>ez κ2 τ2.h g∨g=l∨g=D) M2 (W2.putObj l (.loop r2))∧EnvStep S w (fun g=>ez κ2 τ2.h g∨g=l∨g=D) Mm M2 (W2.putObj l (.loop r2)):=by
 have hDw:D < w.heap.size:=(zAa.1 hD).1
 have hbk:∀ g,ez κ2 τ2.h g→w.heap.size≤g∨ez κi τ.h g:=fun g ⟨id,ob,h1,h2⟩=>h.own g (H2.blk_lt h1 h2).1
 have hb2:∀ g,ez κ2 τ2.h g→g≠l∧g≠D:=fun g hg=>(hbk g hg).elim (fun h=>⟨by omega,by omega⟩) (hlD g)
 have hW:∀ g,g < w.heap.size→¬ez κi τ.h g→g≠l→W2.heap[g]?=w.heap[g]?:=fun g hg hS hl=>by
  rw [H2.blw.block g (by rw [H2.base]; have:=h.calm.size; omega) (fun hs=>(h.own g (.inr hs)).elim (fun h=>by omega) hS)]
  exact h.block g hg hS hl
 have hD2:W2.heap[D]?=some (.deferred (some [])):=by rw [hW D hDw (fun hd=>(hlD D hd).2 rfl) (Ne.symm hld)]; exact hD
 have hl3:l < W2.heap.size:=(zAa.1 hl2).1
 have hcm:Calm w W2:=h.calm.trans (.of_und H2.blw)
 have hcp:=wX (o':=.loop r2) hl2 dd
 have hR:=Rel.unrnd hJ H hm hnew hl h hps hcs hfb hJ2 H2 hk
 have hs3:∀ p v,M2 p=some v→(W2.putObj l (.loop r2)).cell? p=some v:=fun p v hp=>nb hl2 dd (H2.snd p v hp)
 have hS3:∀ p v,M2 p=some v→¬(ez κ2 τ2.h p.block∨p.block=l∨p.block=D):=fun p v hp=>by
  rintro (⟨id,ob,h1,h2⟩ | h1 | h1)
  · exact H2.sep p v hp id ob h1 h2
  · exact nY hl2 dd (H2.snd p v hp) h1
  · exact nY hD2 mD (H2.snd p v hp) h1
 refine ⟨⟨κ2,M2,hR.stay (uo hl2 dd hl) (fun g hg=>World.putObj_heap_other (hb2 g hg).1) hs3,hk,fun _ _ h=>h,World.putObj_heap_same hl3,by rw [World.putObj_heap_other (Ne.symm hld)]; exact hD2,fun g=>zBc,hb2⟩,?_⟩
 have hc3:=hcm.trans hcp
 exact { os:=hc3.os,tape:=hc3.tape,output:=hc3.output,size:=hc3.size
         block:=fun g hg hn=>by
          have:g≠l:=fun e=>hn ((hS g).2 (.inr (.inl e)))
          rw [World.putObj_heap_other this]
          exact hW g hg (fun hb=>hn ((hS g).2 (.inl hb))) this
         siz:=hc3.siz
         mem:=fun p v hp=>H2.sub.sub p v (h.mem p v hp)
         snd:=hs3
         new:=fun p v hp=>by
          rcases H2.new p v hp with h1 | h1
          · rcases h.new p v h1 with h2 | h2 | h2
            · exact .inl h2
            · exact .inr (.inl h2)
            · exact .inr (.inr ((hS _).2 (.inl h2)))
          · rcases h.own _ h1 with h2 | h2
            · exact .inr (.inl h2)
            · exact .inr (.inr ((hS _).2 (.inl h2)))
         sep:=hS3
         sub:=fun g hg=>by
          rcases hg with hg | hg | hg
          · exact (hbk g hg).elim .inr fun h=>.inl ((hS g).2 (.inl h))
          · exact .inl ((hS g).2 (.inr (.inl hg)))
          · exact .inl ((hS g).2 (.inr (.inr hg)))
         lt:=fun g hg=>by
          rw [World.putObj_size]
          rcases hg with ⟨id,ob,h1,h2⟩ | hg | hg
          · exact (H2.blk_lt h1 h2).2
          · rw [hg]; exact hl3
          · rw [hg]; exact (zAa.1 hD2).1 }
theorem Kj(hmx:P.follows .mixedOrders=true)(hJ:B.J=noJ){ks:List Nat}{ps:Array Nat}{assign body:Code}{xa xb:AC}(hLa:LC P N ks assign xa)(hLb:LC P N ks body xb){l D fnid:Nat}(hl:B.n<=l)(hld:l≠D)
 (hps:∀t∈ps.toList,t<N/\t ∉ ks) {full:List (V×Bool)} {st:Nat->St} {stx:St} (hlen:∀(i:Nat)(us:List V)(b:Bool),full[i]?=some (.tup us,b)->us.length=ps.size) (hfull:∀(i:Nat)(v:V),full[i]?=some (v,false)->i+1=full.length)
 (hround:∀(i:Nat)(us:List V)(b:Bool),full[i]?=some (.tup us,b)->W (Cn P) xa (Ex.then (W (Cn P) xb (Fb st stx ks i b)) (fun _ _=>False)) ⟨tK ps.toList us (st i).r,(st i).h⟩)
 {Mst:Mem} {Bit:Bas} (hBJ:Bit.J=UQ N M0 B w0 a ks l D full st stx (mK fnid a ps assign body D)) (hMst:∀p v,Mst p=some v->M0 p=some v\/B.own p.block) (hown:∀g,Bit.own g->B.own g):ib P Mst Bit:=by
 intro k us b rest S Mm W cs hjj hMs hsep hnew hus o a' Nx Q ρ hN;rw[hBJ]at hjj;obtain⟨rfl,(⟨i,hd,hi,htr,κi,Mi,H,hk,hm,hlW,hDW,hS,hlD⟩|⟨h0,_⟩)⟩:=hjj
 ·have hfi:full[i]?=some (.tup us,b):=by
   have:(full.drop i)[0]?=some (.tup us,b):=by rw[<-hd];rfl
   simpa using this
  have hrest:rest=full.drop (i+1):=by
   have:(full.drop i).drop 1=rest:=by rw[<-hd];rfl
   rw[<-this,List.drop_drop]
  have hil:i<full.length:=(zAb.1 hfi).1
  have hsz:cs.size=ps.size:=by
   have:=az hus;rw[<-hlen i us b hfi,<-this];simp
  rw[run_yield hlW hsz,Oper.uponIn_round];have hlw:k<W.heap.size:=(zAa.1 hlW).1;refine⟨fun h=>(by cases h),Df hmx hJ hLa hLb H hm hlW hlD rfl hMs (fun p v hp hb=>hsep p v hp ((hS _).2 (.inl hb))) hus hps (hround i us b hfi) ?_⟩
  intro e τ2 κ2 M1 M2 a2 W1 W2 B2 hp hMid hps2 hcs2 hfb2 hJ2 H2 hl2;have hnew':∀p v,Mm p=some v->M0 p=some v\/B.own p.block:=fun p v hp=>(hnew p v hp).elim (hMst p v) fun h=>.inr (hown _ h);cases e with
  |norm=>
    obtain⟨rfl,ms,τ',h1,h2⟩:=hp;obtain⟨κ3,M3,H3⟩:=H2.mats h1;have H4:=H3.nrm' ks;have hk4:∀t v,lk (st (i+1)).r t=some v->t∈ks:=fun t v h=>F2 (by rw[h2];exact h)
    rw[h2]at H4;obtain⟨hE,hst⟩:=zy (r2:=mK fnid a ps assign body D .ready none) hJ H hm hnew' hl hld hS hlD hlw hDW hMid hps2 hcs2 hfb2 hJ2 H4 hk4 hl2;refine⟨_,_,run_endRound none hl2,hN _ _ _ ?_ hst⟩;rw[hBJ];refine⟨rfl,.inl ⟨i+1,hrest,hil,fun j v b' hj hjb=>?_,hE⟩⟩;rcases Nat.lt_or_ge j i with h|h
    ·exact htr j v b' h hjb
    ·obtain rfl:j=i:=by omega
     rw[hfi]at hjb;cases hjb;rfl
  |ret=>
    obtain⟨rfl,ms,τ',h1,h2⟩:=hp;obtain⟨κ3,M3,H3⟩:=H2.mats h1;have H4:=H3.nrm' ks;have hk4:∀t v,lk stx.r t=some v->t∈ks:=fun t v h=>F2 (by rw[h2];exact h)
    rw[h2]at H4;obtain⟨hE,hst⟩:=zy (r2:=mK fnid a ps assign body D .done (some .ret)) hJ H hm hnew' hl hld hS hlD hlw hDW hMid hps2 hcs2 hfb2 hJ2 H4 hk4 hl2;refine⟨_,_,run_endRound (some .ret) hl2,hN _ _ _ ?_ hst⟩;rw[hBJ];refine⟨rfl,.inr ⟨?_,⟨i,_,hfi⟩,hE⟩⟩;rw[hrest,zAg,hfull i _ hfi];exact zAd _
  |exit id=>exact hp.elim
  |goto t=>exact hp.elim
 ·cases h0
theorem Ki{ks:List Nat}{l D:Nat}{full:List (V×Bool)}{st:Nat->St}{stx:St}{rec:LoopState->Option Code->Loop}{Bit:Bas}(hBJ:Bit.J=UQ N M0 B w0 a ks l D full st stx rec)(hn:B.n<=Bit.n)(hown:∀g,Bit.own g->B.own g):xd Bit:=by
 intro k ann S Mm Mm' W W' hj hu hS hm hs;rw[hBJ]at hj⊢;have hu':Und B W W':=⟨hu.os,hu.tape,hu.output,hu.size,fun g hg hs=>hu.block g (by omega) (fun h=>(hown g (.inr h)).elim (fun h=>by omega) hs),hu.siz⟩
 obtain⟨rfl,(⟨i,h1,h2,h3,h4⟩|⟨h1,h2,h4⟩)⟩:=hj
 ·exact⟨rfl,.inl ⟨i,h1,h2,h3,h4.stay hu' hS hm hs⟩⟩
 ·exact⟨rfl,.inr ⟨h1,h2,h4.stay hu' hS hm hs⟩⟩
abbrev iO(D:Nat):Deferred:={ target:=.collected D,args:=#[] }
def dqB(B:Bas)(D:Nat):Bas:=⟨B.n,B.S,B.ps,B.cs,B.fb,fun _ l S _ w=>l=[]/\(∀g,S g↔g=D)/\w.heap[D]?=some (.deferred (some [])),iO D::B.df,B.gq⟩
theorem Nb{D:Nat}{Mst:Mem}:ib P Mst (dqB B D):=fun _ _ _ _ _ _ _ _ h=>by cases h.1
theorem Na{D:Nat}:xd (dqB B D):=fun k l S M M' w w' h hu hS _ _=>⟨h.1,h.2.1,by rw[hS D ((h.2.1 D).2 rfl)];exact h.2.2⟩
theorem SI{B':Bas}{X:V->Value->Prop}{id:Nat}{ob:Ob}(hJ:B.J=noJ)(ho:∀g,κ.bl id g->B'.own g)(hgq:B'.gq=B.gq)(h:aA κ M X B w id ob):aA κ M X B' w id ob:=by
 cases ob with
 |gh l=>obtain⟨k,_,h1,_⟩:=h;rw[hJ]at h1;exact h1.elim
 |box cs=>exact bW (B:=B) (B':=⟨B'.n,B'.S,B'.ps,B'.cs,B'.fb,B.J,B'.df,B'.gq⟩) ho rfl (fun _ e=>by cases e) h
 |arr e sz l=>exact bW (B:=B) (B':=⟨B'.n,B'.S,B'.ps,B'.cs,B'.fb,B.J,B'.df,B'.gq⟩) ho rfl (fun _ e=>by cases e) h
 |mat e e2 sz l=>exact bW (B:=B) (B':=⟨B'.n,B'.S,B'.ps,B'.cs,B'.fb,B.J,B'.df,B'.gq⟩) ho rfl (fun _ e=>by cases e) h
 |mp kt l=>exact bW (B:=B) (B':=⟨B'.n,B'.S,B'.ps,B'.cs,B'.fb,B.J,B'.df,B'.gq⟩) ho rfl (fun _ e=>by cases e) h
 |tok c=>exact h
 |pool ms=>exact bW (B:=B) (B':=⟨B'.n,B'.S,B'.ps,B'.cs,B'.fb,B.J,B'.df,B'.gq⟩) ho rfl (fun _ e=>by cases e;show ∀k j n i off c,B'.gq k j n i off c->_;rw[hgq];exact h.2.2.2.2.2) h
 |itr s p=>exact bW (B:=B) (B':=⟨B'.n,B'.S,B'.ps,B'.cs,B'.fb,B.J,B'.df,B'.gq⟩) ho rfl (fun _ e=>by cases e) h
theorem Rel.dq{D:Nat}(hJ:B.J=noJ)(H:Rel N M0 B w0 κ M σ a w)(hD:w.heap[D]?=some (.deferred (some [])))(hn:B.n<=D)(hb:∀g,ez κ σ.h g->g≠D):
 Rel N M0 (dqB B D) w0 (bG κ σ.h.length (.func (.yield 0) #[] #[]) (fun _=>Go.undef) (fun g=>g=D)) M ⟨σ.r,σ.h++[some (.gh [])]⟩ { a with defers:=iO D::a.defers } w:=by
 have H':Rel N M0 (dqB B D) w0 κ M σ { a with defers:=iO D::a.defers } w:=
  { dfr:=by show iO D::a.defers=iO D::B.df;rw[H.dfr]
    jst:=Na,pin:=H.pin,size:=H.size,regs:=H.regs
    heap:=fun id ob h=>SI hJ (fun g hg=>(H.blk_lt h hg).1) rfl (H.heap id ob h)
    inj:=H.inj,snd:=H.snd,sep:=H.sep,sub:=⟨H.sub.sub,H.sub.fmS,H.sub.fmN,H.sub.fbn,H.sub.gl⟩,new:=H.new,base:=H.base
    blw:=⟨H.blw.os,H.blw.tape,H.blw.output,H.blw.size,H.blw.block,H.blw.siz⟩ }
 refine H'.newOb' (w':=w) (Below.refl _ _) (fun g hg j oj hj hj'=>hb g ⟨j,oj,hj,hj'⟩ hg) (fun p v hp hg=>nY hD mD (H.snd p v hp) hg) ?_;simp only[aA];rw[aZ,aD];exact⟨0,rfl,⟨rfl,fun g=>zBc,hD⟩,fun g hg=>⟨by rw[hg];exact .inl hn,by rw[hg];exact(zAa.1 hD).1⟩⟩
theorem Calls.mono'{f:FuncId}{args:Array Value}{R R':Ending->World->Prop}(h:Calls P f args w R)(hr:∀e w',R e w'->R' e w'):Calls P f args w R':=h.mono hr
theorem IP(hmx:P.follows .mixedOrders=true)(hJ:B.J=noJ)(H:Rel N M0 B w0 κ M σ a w){ks:List Nat}{ps:Array Nat}{assign body:Code}{xa xb:AC}(hLa:LC P N ks assign xa)(hLb:LC P N ks body xb)
 (hps:∀t∈ps.toList,t<N/\t ∉ ks) {full:List (V×Bool)} {st:Nat->St} {stx:St} (hlen:∀(i:Nat)(us:List V)(b:Bool),full[i]?=some (.tup us,b)->us.length=ps.size) (hfull:∀(i:Nat)(v:V),full[i]?=some (v,false)->i+1=full.length)
 (hround:∀(i:Nat)(us:List V)(b:Bool),full[i]?=some (.tup us,b)->W (Cn P) xa (Ex.then (W (Cn P) xb (Fb st stx ks i b)) (fun _ _=>False)) ⟨tK ps.toList us (st i).r,(st i).h⟩)
 {g:Operand} {g':AO} {tg:TypeId} (hg:cO P tg g=some g') {gf:FuncId} {id:Nat} {cs cs':List V} (hgv:σ.ev g'=some (.fn (.func gf) [] [.ptr id 0])) (hbx:σ.h[id]?=some (some (.box cs))) (hcs:purs [] cs=some cs')
 (hid:id ∉ σ.ids ks) (hst0:σ.nrm ks=st 0) (hen:∀args w,(callFunc gf args).run P w=.ok (.enter gf args) w)
 (hF:FnH P gf [0] [.ref 0 0,.ptr 1 0] [some (.gh full),some (.box cs')] (.tup []) [some (.gh [])])
 {Q:Exit->Act->World->Prop}
 (hdone:(∀p∈full,p.2=true)->∀κ' M' w' D,Rel N M0 (dqB B D) w0 κ' M' ⟨(st full.length).r,(st full.length).h++[some (.gh [])]⟩ { a with defers:=iO D::a.defers } w'->Q .normal { a with defers:=iO D::a.defers } w')
 (hstop:(∃p∈full,p.2=false)->∀κ' M' w' D,Rel N M0 (dqB B D) w0 κ' M' ⟨stx.r,stx.h++[some (.gh [])]⟩ { a with defers:=iO D::a.defers } w'->Q .ret { a with defers:=iO D::a.defers } w'):
 (Code.rangeFunc g ps assign body).wpIn (FR none) 0 P Q a w:=by
 refine wpIn_rangeFunc ?_;intro fnid hfn;obtain⟨D,hDe⟩:∃D,w.heap.size=D:=⟨_,rfl⟩;obtain⟨l,hle⟩:∃l,w.heap.size+1=l:=⟨_,rfl⟩;obtain⟨W1,hW1⟩:∃W1,(w.alloc (.deferred (some []))).alloc (.loop (mK fnid a ps assign body D .ready none))=W1:=⟨_,rfl⟩;have hent:=run_enterLoop_outer (P:=P) (w:=w) fnid a.tmps ps assign body;rw[hDe,show D+1=l by omega]at hent
 have hent':(Instr.enterLoop fnid a.tmps ps assign body (FR none).round).run P w=.ok (l,[iO D]) W1:=by rw[<-hW1];exact hent
 have hL1:W1.heap[l]?=some (.loop (mK fnid a ps assign body D .ready none)):=by
  rw[<-hW1,<-hle];have:=World.alloc_heap_new (w.alloc (.deferred (some []))) (.loop (mK fnid a ps assign body D .ready none));rwa[World.size_alloc]at this
 have hD1:W1.heap[D]?=some (.deferred (some [])):=by
  rw[<-hW1,<-hDe];exact(Below.heap_alloc _ _ _ (by simp)).trans (World.alloc_heap_new w _)
 have hbel:Below w.heap.size w W1:=by
  rw[<-hW1];exact(((Below.refl _ w).alloc (zAd _) _).alloc (by simp) _)
 have hBn:B.n<=w.heap.size:=by rw[H.base];exact H.blw.size
 have hfv:=H.op hg hgv;simp only[rep]at hfv;obtain⟨a1,a2,hev,hr1,hr2⟩:=hfv;simp only[ac]at hr1 hr2;have ha1:a1=#[]:=by cases a1;simp at hr1;rw[hr1]
 obtain⟨c,c',hr2,hc,rfl⟩:=hr2;have ha2:a2=#[c]:=by cases a2;simp at hr2;rw[hr2]
 subst ha1 ha2;have hc':=hc;simp only[rep,XX]at hc;obtain⟨b0,hb1,hb2⟩:=hc.2.2 cs hbx;subst hb2
 -- the state at the start
 have H1:=H.grow0 hbel;have H2:=H1.nrm' ks;rw[hst0]at H2;have hk0:∀t v,lk (st 0).r t=some v->t∈ks:=fun t v h=>F2 (by rw[hst0];exact h)
 have hbl0:∀g,ez (κ.ren (σ.ids ks)) (st 0).h g->∃j ob,j≠id/\σ.h[j]?=some (some ob)/\κ.bl j g:=by
  rintro g ⟨j,ob,h1,h2⟩;rw[<-hst0,FP]at h1;obtain⟨i,ob',g1,g2,_⟩:=f5 h1;refine⟨i,ob',fun e=>hid (e ▸ zAh g1),g2,?_⟩;simpa[Kap.ren,List.getD,g1]using h2
 have hlD0:∀g,ez (κ.ren (σ.ids ks)) (st 0).h g->g≠l/\g≠D:=fun g hg=>by
  obtain⟨j,ob,_,h1,h2⟩:=hbl0 g hg;have:=(H.blk_lt h1 h2).2;omega
 let S0:Nat->Prop:=fun g=>ez (κ.ren (σ.ids ks)) (st 0).h g\/g=l\/g=D
 let κit:Kap:=⟨fun j=>if j=0 then .func (.yield l) #[] #[]else κ id,fun _ _=>Go.undef,fun j=>if j=0 then S0 else κ.bl id,fun _=>none⟩
 let J:=UQ N M0 B w0 a ks l D full st stx (mK fnid a ps assign body D)
 let Hit:List (Option Ob):=[some (.gh full),some (.box cs')]
 let Bit:Bas:=cW κit Hit W1 [0] (#[.func (.yield l) #[] #[]]++#[Value.pointer (some ⟨b0,0,none⟩)]) J
 have hWs:W1.heap.size=w.heap.size+2:=by rw[<-hW1];simp
 have hown:∀g,Bit.own g->B.own g:=by
  rintro g (h|⟨j,ob,h1,h2⟩)
  ·have h:W1.heap.size<=g:=h
   exact .inl (by omega)
  ·match j,h1,h2 with
   |0,h1,h2=>
     have h2:S0 g:=h2;rcases h2 with h2|h2|h2
     ·obtain⟨j,ob,_,h3,h4⟩:=hbl0 g h2;exact(H.blk_lt h3 h4).1
     ·exact .inl (by omega)
     ·exact .inl (by omega)
   |1,h1,h2=>
     have h2:κ.bl id g:=h2;exact(H.blk_lt hbx h2).1
   |j+2,h1,h2=>simp[Hit]at h1
 have hpre:Heap κit M Bit W1 Hit:=
  { heap:=fun j ob hj=>by
     match j,hj with
     |0,hj=>
       have:ob=.gh full:=by simpa[Hit]using hj.symm
       subst this;refine⟨l,rfl,⟨rfl,.inl ⟨0,rfl,zAf _,fun j v b h=>absurd h (zAj _),_,M,H2,hk0,fun _ _ h=>h,hL1,hD1,fun g=>zBc,hlD0⟩⟩,fun g hg=>⟨.inr ⟨0,_,rfl,hg⟩,?_⟩⟩;have hg:S0 g:=hg;rcases hg with hg|hg|hg
       ·obtain⟨j,ob,_,h3,h4⟩:=hbl0 g hg
        have:=(H.blk_lt h3 h4).2;omega
       ·omega
       ·omega
     |1,hj=>
       have:ob=.box cs':=by simpa[Hit]using hj.symm
       subst this;have ho:=H1.heap id _ hbx;simp only[aA]at ho;obtain⟨b,arr,T,h1,h2,h3,h4,h5,h6⟩:=ho;have h7:=bg H1 (fun _ _ h=>h) (fun i hi=>by rw[(eC hcs).1]at hi;cases hi) h4 ((eC hcs).2 σ.h)
       exact⟨b,arr,T,h1,.inr ⟨1,_,rfl,(h6 b).2 rfl⟩,h3,aC (fun _ _ h=>h) (fun _ _ h=>h.elim) _ _ h7,h5,h6⟩
     |j+2,hj=>simp[Hit]at hj
    inj:=fun i j oi oj g hi hj gi gj=>by
     have key:∀g,S0 g->κ.bl id g->False:=fun g h1 h2=>by
      have:=(H.blk_lt hbx h2).2;rcases h1 with h1|h1|h1
      ·obtain⟨j,ob,h3,h4,h5⟩:=hbl0 g h1
       exact h3 (H.inj j id ob _ g h4 hbx h5 h2)
      ·omega
      ·omega
     match i,j,hi,hj,gi,gj with
     |0,0,_,_,_,_=>rfl
     |1,1,_,_,_,_=>rfl
     |0,1,_,_,gi,gj=>exact(key g gi gj).elim
     |1,0,_,_,gi,gj=>exact(key g gj gi).elim
     |i+2,_,hi,_,_,_=>simp[Hit]at hi
     |_,j+2,_,hj,_,_=>simp[Hit]at hj
    snd:=H1.snd
    sep:=fun p v hp j ob hj hg=>by
     have:=H.mem_lt hp
     match j,hj,hg with
     |0,_,hg=>
       have hg:S0 p.block:=hg;rcases hg with hg|hg|hg
       ·obtain⟨j,ob,_,h3,h4⟩:=hbl0 _ hg;exact H.sep p v hp j ob h3 h4
       ·omega
       ·omega
     |1,_,hg=>exact H.sep p v hp id _ hbx hg
     |j+2,hj,_=>simp[Hit]at hj
    fmS:=fun _ _ h=>by cases h
    gl:=H.sub.gl.mono H.sub.sub
    jst:=Ki (Bit:=Bit) rfl (by show B.n<=W1.heap.size;omega) hown }
 have hJC:ib P M Bit:=Kj hmx hJ hLa hLb (by omega) (by omega) hps hlen hfull hround rfl H.new hown
 have hus:ac M (XX κit Hit) [.ref 0 0,.ptr 1 0] (#[Value.func (.yield l) #[] #[]]++#[Value.pointer (some ⟨b0,0,none⟩)]).toList:=by
  simp only[ac,rep,XX];refine⟨_,_,rfl,⟨rfl,by simp[Hit],fun e sz l h=>by simp[Hit]at h,fun e e2 sz l h=>by simp[Hit]at h,fun o ho hn=>rfl⟩,_,_,rfl,⟨rfl,by simp[Hit],fun cs1 h1=>⟨b0,hb1,rfl⟩⟩,rfl⟩
 refine⟨l,[iO D],W1,{ target:=.fn (.func gf) #[Value.pointer (some ⟨b0,0,none⟩)],args:=#[.func (.yield l) #[] #[]] },W1,gf,#[.func (.yield l) #[] #[]]++#[Value.pointer (some ⟨b0,0,none⟩)],W1,hent',?_,fun _ _=>trivial,?_,fun h=>(by cases h),?_⟩
 ·simp only[resolve,hev]
  simp[go_sem]
 ·simp[invoke,go_sem,hen]
 ·have hcall:=hF M W1 κit _ J hJC hpre hus (default:Oper) a (fun _ w''=>rangePost (FR none) 0 P l Q { a with defers:=[iO D]++a.defers } (.returned Go.undef) w'') (fun _ _ _=>False) (fun c2 M' w' κ' hr hu hh hM1 hM2 hpin=>?_)
  ·rw[hen,Oper.upon_enter]at hcall
   refine wY (Calls.mono' hcall ?_);intro e w'' he;cases e with
   |returned v=>exact he
   |panicked chain=>exact he.elim
   |outgrown=>obtain⟨_,_,h⟩:=he;exact h.elim
  ·obtain⟨k,hk1,⟨rfl,hj⟩,hk3⟩:=hh.heap 0 _ rfl
   rcases hj with⟨i,hd,hi,htr,κi,Mi,Hi,hki,hmi,hlW,hDW,hS,hlD⟩|⟨_,⟨j,v,hjv⟩,κi,Mi,Hi,hki,hmi,hlW,hDW,hS,hlD⟩
   ·have hie:i=full.length:=by have:=zAg.1 hd.symm;omega
    subst hie;refine⟨none,_,run_endLoop hlW (by simp[mK]),?_⟩
    have Hs:=Hi.stay (uo (o':=.loop { mK fnid a ps assign body D .ready none with state:=.exhausted }) hlW dd (by omega)) (fun g hg=>World.putObj_heap_other (hlD g hg).1) (fun p v hp=>nb hlW dd (Hi.snd p v hp))
    refine hdone (fun p hp=>?_) _ _ _ D (Hs.dq hJ (by rw[World.putObj_heap_other (by omega)];exact hDW) (by omega) (fun g hg=>(hlD g hg).2))
    obtain⟨j,hj,hjp⟩:=List.getElem_of_mem hp;exact htr j p.1 p.2 hj (by rw[List.getElem?_eq_getElem hj,hjp])
   ·refine⟨some .ret,_,run_endLoop hlW (by simp[mK]),?_⟩
    have Hs:=Hi.stay (uo (o':=.loop { mK fnid a ps assign body D .done (some .ret)with state:=.exhausted }) hlW dd (by omega)) (fun g hg=>World.putObj_heap_other (hlD g hg).1) (fun p v hp=>nb hlW dd (Hi.snd p v hp))
    exact wpIn_ret (hstop ⟨_,zAh hjv,rfl⟩ _ _ _ D (Hs.dq hJ (by rw[World.putObj_heap_other (by omega)];exact hDW) (by omega) (fun g hg=>(hlD g hg).2)))
end
def Ew:Code->List Code
 | .seq a b=>Ew a++Ew b
 |c=>[c]
def wpL(F:Fence)(n:Nat)(P:Program):List Code->(Exit->Act->World->Prop)->Act->World->Prop
 |[],Q,a,w=>Q .normal a w
 |c::l,Q,a,w=>c.wpIn F n P (Exit.then (wpL F n P l Q) Q) a w
section
variable{F:Fence}{n:Nat}{P:Program}
theorem px{m:List Code}{Q:Exit->Act->World->Prop}:∀(l:List Code),wpL F n P (l++m) Q=wpL F n P l (Exit.then (wpL F n P m Q) Q)
 |[]=>by funext a w;rfl
 |c::l=>by
   funext a w;simp only[List.cons_append,wpL];rw[px l];congr 1;funext e;cases e<;>rfl
theorem Ko(c:Code):∀{Q:Exit->Act->World->Prop}{a:Act}{w:World},wpL F n P (Ew c) Q a w->c.wpIn F n P Q a w:=by
 have one:∀(c:Code){Q:Exit->Act->World->Prop}{a:Act}{w:World},wpL F n P [c] Q a w->c.wpIn F n P Q a w:=fun c Q a w h=>wpIn_mono h fun e a w h=>by cases e<;>exact h
 induction c with
 |seq x y ihx ihy=>
   intro Q a w h;rw[Ew,px]at h
   exact wpIn_seq (wpIn_mono (ihx h) fun e a w h=>by
    cases e with
    |normal=>exact ihy h
    |_=>exact h)
 |_=>exact one _
end
def tJ:List AC->AC
 |[]=>.skip
 |x::xs=>.seq x (tJ xs)
inductive LCl (P:Program) (N:Nat) (ps:List Nat):List Code->List AC->Prop
 |nil:LCl P N ps [] []
 |cons {c x l xs}:LC P N ps c x->LCl P N ps l xs->LCl P N ps (c::l) (x::xs)
section
variable{P:Program}{N:Nat}{M0:Mem}{B:Bas}{w0:World}{κ:Kap}{M:Mem}{σ:St}{a:Act}{w w':World}
theorem E9(hmx:P.follows .mixedOrders=true)(hJC:ib P M0 B){ρ:Option Nat}{l:List Code}{xs:List AC}(h:LCl P N B.ps l xs):∀{Q:Exit->Act->World->Prop}{R:Ex->St->Prop},
 (∀e κ M σ a w,R e σ->Rel N M0 B w0 κ M σ a w->Q e.out a w)->∀{κ:Kap}{M:Mem}{σ:St}{a:Act}{w:World},Rel N M0 B w0 κ M σ a w->W (Cn P) (tJ xs) R σ->wpL (FR ρ) 0 P l Q a w:=by
 induction h with
 |nil=>intro Q R hQ κ M σ a w H hW;exact hQ .norm _ _ _ _ _ hW H
 |cons hc _ ih=>
   intro Q R hQ κ M σ a w H hW;refine lx hmx hJC hc ?_ H hW;intro e κ M σ a w hR H;cases e with
   |norm=>exact ih hQ H hR
   |exit id=>exact hQ (.exit id) _ _ _ _ _ hR H
   |goto l=>exact hQ (.goto l) _ _ _ _ _ hR H
   |ret=>exact hQ .ret _ _ _ _ _ hR H
structure RImg where
 pre:List AC
 g:AO
 ps:List Nat
 xa:AC
 xb:AC
 post:List AC
 rs:List RV
def uX:List Code->List Code->Option (List Code×Nat×Operand×Array Tmp×Code×Code×List Code)
 |_,[]=>none
 |acc,c::l=>match c with
   | .block id (.rangeFunc g ps a b)=>some (acc.reverse,id,g,ps,a,b,l)
   |c=>uX (c::acc) l
theorem sW:∀{l acc:List Code}{pre post:List Code}{id:Nat}{g:Operand}{ps:Array Tmp}{a b:Code},uX acc l=some (pre,id,g,ps,a,b,post)->acc.reverse++l=pre++.block id (.rangeFunc g ps a b)::post
 |[],_,_,_,_,_,_,_,_,h=>by simp[uX]at h
 |c::l,acc,pre,post,id,g,ps,a,b,h=>by
   unfold uX at h;split at h
   ·cases h;rfl
   ·have:=sW h
    simpa using this
def Aw(P:Program)(N:Nat)(ps E:List Nat):List Code->List (List Nat)->Option (List AC×List (List Nat))
 |[],K=>some ([],K)
 |c::l,K=>match bw P N ps E c K with
   |some (x,K')=>match Aw P N ps E l K' with
     |some (xs,K'')=>some (x::xs,K'')
     |none=>none
   |none=>none
theorem p8{ps E:List Nat}:∀{l:List Code}{K K':List (List Nat)}{xs:List AC},Aw P N ps E l K=some (xs,K')->LCl P N ps l xs
 |[],K,K',xs,h=>by simp only[Aw,zBd,Prod.mk.injEq]at h;rw[<-h.1];exact .nil
 |c::l,K,K',xs,h=>by
   simp only[Aw]at h;split at h
   ·rename_i x K1 h1
    split at h
    ·rename_i xs' K2 h2
     cases h;exact .cons (cQ h1) (p8 h2)
    ·cases h
   ·cases h
def By(P:Program)(fn:Func)(E ks:List Nat)(K:List (List Nat))(n:Nat):Option RImg:=
 match fn.body with
 |some c=>match uX [] (Ew c)with
   |some (pre,_,g,ps,a,b,post)=>match Aw P fn.ntmps [] E pre K with
     |some (xs,K1)=>match bw P fn.ntmps ks E a K1 with
       |some (xa,K2)=>match bw P fn.ntmps ks E b K2 with
         |some (xb,K3)=>match Aw P fn.ntmps [] E post K3,cO P 0 g,rK P fn.results.toList with
           |some (ys,[]),some g',some rs=>if(fn.name == "runtime.NumGoroutine")=false/\n<=fn.ntmps/\ps.toList.all (fun t=>decide (t<fn.ntmps)&& !(fq t ks))=true then some ⟨xs,g',ps.toList,xa,xb,ys,rs⟩else none
           |_,_,_=>none
         |none=>none
       |none=>none
     |none=>none
   |none=>none
 |none=>none
def G9(P:Program)(g:AO)(ks:List Nat)(full:List (V×Bool))(s0:St):Ex->St->Prop
 | .norm,σ=>∃(gf:FuncId)(id:Nat)(cs cs':List V),σ.ev g=some (.fn (.func gf) [] [.ptr id 0])/\σ.h[id]?=some (some (.box cs))/\purs [] cs=some cs'/\fq id (σ.ids ks)=false/\σ.nrm ks=s0/\
    (∀args w,(callFunc gf args).run P w=.ok (.enter gf args) w)/\FnH P gf [0] [.ref 0 0,.ptr 1 0] [some (.gh full),some (.box cs')] (.tup []) [some (.gh [])]
 |_,_=>False
def Eb:List (Option Ob)->Bool
 |[]=>false
 |some (.gh [])::_=>true
 |_::h=>Eb h
theorem Af:∀{h:List (Option Ob)},Eb h=true->∃id:Nat,h[id]?=some (some (.gh []))
 |[],h=>by simp[Eb]at h
 |x::l,h=>by
   unfold Eb at h;split at h
   ·rename_i e;cases e
   ·rename_i e;cases e;exact⟨0,rfl⟩
   ·rename_i e;cases e;obtain⟨id,hi⟩:=Af h;exact⟨id+1,by simpa using hi⟩
def Uu(rs:List RV)(r:V)(e:Ex)(σ:St):Prop:=Res rs (·=r) e σ/\Eb σ.h=true
theorem PN{B':Bas}{X:V->Value->Prop}{id:Nat}{ob:Ob}(hng:∀l,ob≠.gh l)(hw:∀g,κ.bl id g->w'.heap[g]?=w.heap[g]?)(hc:Calm w w')(hs:∀p v,M p=some v->w'.cell? p=some v)(ho:∀g,κ.bl id g->B'.own g)(hgq:B'.gq=B.gq)
 (h:aA κ M X B w id ob):aA κ M X B' w' id ob:=by
 cases ob with
 |gh l=>exact(hng l rfl).elim
 |pool ms=>
   have h':aA κ M X ⟨B.n,B.S,B.ps,B.cs,B.fb,noJ,B.df,B.gq⟩ w id (.pool ms):=h;have h2:aA κ M X ⟨B'.n,B'.S,B'.ps,B'.cs,B'.fb,noJ,B'.df,B'.gq⟩ w' id (.pool ms):=fE (B:=⟨B.n,B.S,B.ps,B.cs,B.fb,noJ,B.df,B.gq⟩) (B':=⟨B'.n,B'.S,B'.ps,B'.cs,B'.fb,noJ,B'.df,B'.gq⟩) rfl (fun _ _ h=>h) hw hc hs ho rfl hgq h';exact h2
 |box cs=>
   have h':aA κ M X ⟨B.n,B.S,B.ps,B.cs,B.fb,noJ,B.df,B.gq⟩ w id (.box cs):=h;have h2:aA κ M X ⟨B'.n,B'.S,B'.ps,B'.cs,B'.fb,noJ,B'.df,B'.gq⟩ w' id (.box cs):=fE (B:=⟨B.n,B.S,B.ps,B.cs,B.fb,noJ,B.df,B.gq⟩) (B':=⟨B'.n,B'.S,B'.ps,B'.cs,B'.fb,noJ,B'.df,B'.gq⟩) rfl (fun _ _ h=>h) hw hc hs ho rfl hgq h';exact h2
 |arr e sz l=>
   have h':aA κ M X ⟨B.n,B.S,B.ps,B.cs,B.fb,noJ,B.df,B.gq⟩ w id (.arr e sz l):=h;have h2:aA κ M X ⟨B'.n,B'.S,B'.ps,B'.cs,B'.fb,noJ,B'.df,B'.gq⟩ w' id (.arr e sz l):=fE (B:=⟨B.n,B.S,B.ps,B.cs,B.fb,noJ,B.df,B.gq⟩) (B':=⟨B'.n,B'.S,B'.ps,B'.cs,B'.fb,noJ,B'.df,B'.gq⟩) rfl (fun _ _ h=>h) hw hc hs ho rfl hgq h';exact h2
 |mat e e2 sz l=>
   have h':aA κ M X ⟨B.n,B.S,B.ps,B.cs,B.fb,noJ,B.df,B.gq⟩ w id (.mat e e2 sz l):=h;have h2:aA κ M X ⟨B'.n,B'.S,B'.ps,B'.cs,B'.fb,noJ,B'.df,B'.gq⟩ w' id (.mat e e2 sz l):=fE (B:=⟨B.n,B.S,B.ps,B.cs,B.fb,noJ,B.df,B.gq⟩) (B':=⟨B'.n,B'.S,B'.ps,B'.cs,B'.fb,noJ,B'.df,B'.gq⟩) rfl (fun _ _ h=>h) hw hc hs ho rfl hgq h';exact h2
 |mp kt l=>
   have h':aA κ M X ⟨B.n,B.S,B.ps,B.cs,B.fb,noJ,B.df,B.gq⟩ w id (.mp kt l):=h;have h2:aA κ M X ⟨B'.n,B'.S,B'.ps,B'.cs,B'.fb,noJ,B'.df,B'.gq⟩ w' id (.mp kt l):=fE (B:=⟨B.n,B.S,B.ps,B.cs,B.fb,noJ,B.df,B.gq⟩) (B':=⟨B'.n,B'.S,B'.ps,B'.cs,B'.fb,noJ,B'.df,B'.gq⟩) rfl (fun _ _ h=>h) hw hc hs ho rfl hgq h';exact h2
 |tok c=>exact h
 |itr s p=>
   have h':aA κ M X ⟨B.n,B.S,B.ps,B.cs,B.fb,noJ,B.df,B.gq⟩ w id (.itr s p):=h;have h2:aA κ M X ⟨B'.n,B'.S,B'.ps,B'.cs,B'.fb,noJ,B'.df,B'.gq⟩ w' id (.itr s p):=fE (B:=⟨B.n,B.S,B.ps,B.cs,B.fb,noJ,B.df,B.gq⟩) (B':=⟨B'.n,B'.S,B'.ps,B'.cs,B'.fb,noJ,B'.df,B'.gq⟩) rfl (fun _ _ h=>h) hw hc hs ho rfl hgq h';exact h2
theorem Rel.shut{D:Nat}{id:Nat}(H:Rel N M0 (dqB B D) w0 κ M σ a w)(hid:σ.h[id]?=some (some (.gh [])))(hn:B.n<=D):
 Rel N M0 ⟨B.n,B.S,B.ps,B.cs,B.fb,fun _ l _ _ _=>l=[],iO D::B.df,B.gq⟩ w0 κ M σ a (w.putObj D (.deferred none)):=by
 obtain⟨k,_,⟨_,hS,hD⟩,_⟩:=H.heap id _ hid;have hs:∀p v,M p=some v->(w.putObj D (.deferred none)).cell? p=some v:=fun p v hp=>nb hD mD (H.snd p v hp);have hc:=wX (o':=.deferred none) hD mD;exact
 { dfr:=H.dfr,jst:=fun _ _ _ _ _ _ _ h _ _ _ _=>h,pin:=H.pin,size:=H.size,regs:=H.regs
   heap:=fun j ob h=>by
    by_cases hg:∃l,ob=.gh l
    ·obtain⟨l,rfl⟩:=hg
     obtain⟨k',h1,⟨h2,_,_⟩,h4⟩:=H.heap j _ h;exact⟨k',h1,h2,fun g hg=>⟨(h4 g hg).1,by rw[World.putObj_size];exact(h4 g hg).2⟩⟩
    ·refine PN (B:=dqB B D) (fun l e=>hg ⟨l,e⟩) (fun g hb=>World.putObj_heap_other (fun e=>?_)) hc hs (fun g hb=>(H.blk_lt h hb).1) rfl (H.heap j ob h)
     subst e;have:=H.inj id j _ ob g hid h ((hS g).2 rfl) hb;subst this;rw[hid]at h;cases h;exact hg ⟨_,rfl⟩
   inj:=H.inj,snd:=hs,sep:=H.sep,sub:=⟨H.sub.sub,H.sub.fmS,H.sub.fmN,H.sub.fbn,H.sub.gl⟩,new:=H.new,base:=H.base
   blw:=(⟨H.blw.os,H.blw.tape,H.blw.output,H.blw.size,H.blw.block,H.blw.siz⟩:Und ⟨B.n,B.S,B.ps,B.cs,B.fb,fun _ l _ _ _=>l=[],iO D::B.df,B.gq⟩ w0 w).trans (uo hD mD hn) }
theorem FnE.of_rng{f:FuncId}{fn:Func}{us:List V}{r:V}{E ks:List Nat}{K:List (List Nat)}{n:Nat}{im:RImg}(hm:P.follows .mixedOrders=true)(hf:P.funcs[f]?=some fn)(hi:By P fn E ks K n=some im)(hun:us.length=n)
 {full:List (V×Bool)} {st:Nat->St} {stx:St} (hlen:∀(i:Nat)(us:List V)(b:Bool),full[i]?=some (.tup us,b)->us.length=im.ps.length) (hfull:∀(i:Nat)(v:V),full[i]?=some (v,false)->i+1=full.length)
 (hpre:oks us->W (Cn P) (tJ im.pre) (G9 P im.g ks full (st 0)) ⟨ent 0 us,[]⟩)
 (hround:∀(i:Nat)(us:List V)(b:Bool),full[i]?=some (.tup us,b)->W (Cn P) im.xa (Ex.then (W (Cn P) im.xb (Fb st stx ks i b)) (fun _ _=>False)) ⟨tK im.ps us (st i).r,(st i).h⟩)
 (hdone:(∀p∈full,p.2=true)->W (Cn P) (tJ im.post) (Uu im.rs r) ⟨(st full.length).r,(st full.length).h++[some (.gh [])]⟩)
 (hstop:(∃p∈full,p.2=false)->Uu im.rs r .ret ⟨stx.r,stx.h++[some (.gh [])]⟩):FnE P f us r:=by
 unfold By at hi;split at hi;rotate_left
 ·cases hi
 rename_i c hb;split at hi;rotate_left
 ·cases hi
 rename_i pre bid g ps ca cb post hsp;split at hi;rotate_left
 ·cases hi
 rename_i xs K1 hpr;split at hi;rotate_left
 ·cases hi
 rename_i xa K2 hxa;split at hi;rotate_left
 ·cases hi
 rename_i xb K3 hxb;split at hi;rotate_left
 ·cases hi
 rename_i ys g' rs hpo hg hrs;split at hi;rotate_left
 ·cases hi
 rename_i hcond;cases hi;obtain⟨hname,hnn,hpsa⟩:=hcond;simp only at hlen hpre hround hdone hstop
 have hps:∀t∈ps.toList,t<fn.ntmps/\t ∉ ks:=fun t ht=>by
  have:=List.all_eq_true.1 hpsa t ht;simp only[Bool.and_eq_true,decide_eq_true_eq,Bool.not_eq_true']at this;exact⟨this.1,fun h=>by rw[gg.2 h]at this;simp at this⟩
 refine{ call:=fun args w=>?_,does:=fun M w cs hM hus=>?_ }
 ·unfold callFunc
  simp only[beq_eq_false_iff_ne,ne_eq]at hname;simp[Sem.run_bind,hf,hb,hname]
 have hl:cs.size=us.length:=by have:=az hus;simpa using this
 refine Nq (ρ:=none) (n:=0) (callsIn_of_wp_marks (F:=FR none) hf hb trivial ?_ rfl)
 have H:Rel fn.ntmps M ⟨w.heap.size,fun _=>False,[],#[],w.heap.size,noJ,[],fun _ _ _ _ _ _=>False⟩ w ⟨fun _=>Go.undef,fun _ _=>Go.undef,fun _ _=>False,fun _=>none⟩ M ⟨ent 0 us,[]⟩ { tmps:=cs++zBa (fn.ntmps-cs.size) Go.undef,defers:=[] } w:=
  { dfr:=rfl,jst:=iI rfl,pin:=fun i hi=>by cases hi
    size:=by simp;omega
    regs:=fun t v ht=>by
     obtain⟨_,h2⟩:=se ht;simp only[zBb]at h2;have hlt:t<us.length:=(zAb.1 h2).1;obtain⟨c,h3,h4⟩:=bP hus h2;refine⟨by omega,c,?_,aq (fun _ _ h=>h) (fun _ _ h=>h.elim) _ _ h4⟩
     rw[zAe (by omega)]
     simpa using h3
    heap:=fun id ob h=>by simp at h
    inj:=fun i j oi oj g h=>by simp at h
    snd:=hM.snd
    sep:=fun p v _ id ob h=>by simp at h
    sub:=⟨fun _ _ h=>h,fun _ _ h=>(by cases h),fun _ _ h=>(by cases h),zAd _,hM.gl⟩
    new:=fun _ _ h=>.inl h
    base:=rfl
    blw:=Und.refl _ _ }
 -- the end
 have fin:∀(D:Nat)(e:Ex)(κ1:Kap)(M1:Mem)(σ:St)(a:Act)(w1:World),Uu rs r e σ->Rel fn.ntmps M (dqB ⟨w.heap.size,fun _=>False,[],#[],w.heap.size,noJ,[],fun _ _ _ _ _ _=>False⟩ D) w κ1 M1 σ a w1->
  bodyPostM (FR none) 0 P fn (fun e w'=>∃(c:Value)(M':Mem),e=.returned c/\rep M' NX r c/\Below w.heap.size w w'/\(∀p v,M' p=some v->w'.cell? p=some v)/\(∀p v,M p=some v->M' p=some v)/\∀p v,M' p=some v->M p=some v\/w.heap.size<=p.block) e.out a w1:=by
  intro D e κ1 M1 σ a w1 hR Hd;obtain⟨hR,hgh⟩:=hR;obtain⟨gid,hgid⟩:=Af hgh;obtain⟨k,_,⟨_,hS,hD⟩,hown⟩:=Hd.heap gid _ hgid
  have hDn:w.heap.size<=D:=by
   rcases(hown D ((hS D).2 rfl)).1 with h|h
   ·exact h
   ·exact h.elim
  have H1:=Hd.shut (B:=⟨w.heap.size,fun _=>False,[],#[],w.heap.size,noJ,[],fun _ _ _ _ _ _=>False⟩) hgid hDn;simp only[Res]at hR;obtain⟨he,hR⟩:=hR;split at hR
  ·rename_i vs hvs
   split at hR
   ·rename_i ws hws
    obtain⟨ds,k1,k2⟩:=fW hrs H1 hvs;obtain⟨H2,hM1⟩:=H1.kill (ah vs) (cL hws)
    have k3:ac (ext M1 (w1.putObj D (.deferred none)) (fu κ1 (ah vs))) NX ws ds:=by
     refine bg H1 hM1 (fun id hid g hg p hpb=>?_) k1 hws;unfold ext;rw[if_pos (bS.2 ⟨id,hid,by rw[hpb];exact hg⟩)]
    have hleave:LeavesInM (FR none) 0 P fn a.tmps (fun e w'=>∃(c:Value)(M':Mem),e=.returned c/\rep M' NX r c/\Below w.heap.size w w'/\(∀p v,M' p=some v->w'.cell? p=some v)/\(∀p v,M p=some v->M' p=some v)/\∀p v,M' p=some v->M p=some v\/w.heap.size<=p.block) a.defers .returning w1:=by
     have hdf:a.defers=[iO D]:=Hd.dfr;rw[hdf];refine⟨by simp,.inl ⟨D,_,rfl,run_takeDeferred hD,?_⟩⟩
     refine⟨_,k2,_,_,rfl,?_,⟨H1.blw.os,H1.blw.tape,H1.blw.output,H1.blw.size,fun k hk=>H1.blw.block k hk id⟩,H2.snd,H2.sub.sub,fun p v h=>(H2.new p v h).imp_right fun h=>h.elim id False.elim⟩;subst hR;exact CV k3
    cases e with
    |norm=>exact hleave
    |ret=>exact hleave
    |exit id=>exact he.elim
    |goto l=>exact he.elim
   ·exact hR.elim
  ·exact hR.elim
 refine Ko c ?_;have hspl:=sW hsp;simp only[List.reverse_nil,List.nil_append]at hspl;rw[hspl,px];refine E9 hm (iJ rfl) (B:=⟨w.heap.size,fun _=>False,[],#[],w.heap.size,noJ,[],fun _ _ _ _ _ _=>False⟩) (p8 hpr) ?_ H (hpre (cB hus));intro e κ1 M1 σ a w1 hR H1;cases e with
 |norm=>
   obtain⟨gf,id,bcs,bcs',e1,e2,e3,e4,e5,e6,e7⟩:=hR;refine wpIn_block (IP hm rfl H1 (cQ hxa) (cQ hxb) hps (by simpa using hlen) hfull hround hg e1 e2 e3 (fun h=>by rw[gg.2 h]at e4;cases e4) e5 e6 e7 ?_ ?_)
   ·intro hall κ' M' w' D Hd
    refine E9 hm Nb (B:=dqB ⟨w.heap.size,fun _=>False,[],#[],w.heap.size,noJ,[],fun _ _ _ _ _ _=>False⟩ D) (p8 hpo) ?_ Hd (hdone hall);exact fun e κ M σ a w h1 h2=>fin D e κ M σ a w h1 h2
   ·intro hex κ' M' w' D Hd
    exact fin D .ret κ' M' _ _ w' (hstop hex) Hd
 |exit id=>exact hR.elim
 |goto l=>exact hR.elim
 |ret=>exact hR.elim
end
def G8(rs:List RV)(r:V):Ex->St->Prop:=fun e σ=>(match e with
    | .exit _=>False
    | .goto _=>False
    |_=>True)/\match σ.rvs rs with
    |some vs=>∃ms F ws,σ.pl?=some ms/\dV (frz ms F) vs=some ws/\eN ws=r
    |none=>False
section
variable{P:Program}
theorem FnE.of_WQ{f:FuncId}{fn:Func}{c:Code}{us:List V}{r:V}{x:AC}{rs:List RV}(hm:P.follows .mixedOrders=true)(hf:P.funcs[f]?=some fn)(hb:fn.body=some c)
 (hn:(fn.name == "runtime.NumGoroutine")=false) (hc:LC P fn.ntmps [] c x) (hr:rK P fn.results.toList=some rs) (hs:us.length<=fn.ntmps)
 (hW:oks us->W (Cn P) x (G8 rs r) ⟨ent 0 us,[some (.pool [])]⟩):FnE P f us r where
 call:=fun args w=>by
  unfold callFunc;simp only[beq_eq_false_iff_ne,ne_eq]at hn;simp[Sem.run_bind,hf,hb,hn]
 does:=fun M w cs hM hus=>by
  have hl:cs.size=us.length:=by have:=az hus;simpa using this
  refine calls_of_wp hf hb ?_
  have H:Rel fn.ntmps M ⟨w.heap.size,fun _=>False,[],#[],w.heap.size,noJ,[],fun _ _ _ _ _ _=>False⟩ w ⟨fun _=>undef,fun _ _=>undef,fun _ _=>False,fun _=>none⟩ M ⟨ent 0 us,[some (.pool [])]⟩ { tmps:=cs++zBa (fn.ntmps-cs.size) undef,defers:=[] } w:=
   { dfr:=rfl,jst:=iI rfl,pin:=fun i hi=>by cases hi
     size:=by simp;omega
     regs:=fun t v ht=>by
      obtain⟨_,h2⟩:=se ht;simp only[zBb]at h2;have hlt:t<us.length:=(zAb.1 h2).1;obtain⟨c,h3,h4⟩:=bP hus h2;refine⟨by omega,c,?_,aq (fun _ _ h=>h) (fun _ _ h=>h.elim) _ _ h4⟩
      rw[zAe (by omega)]
      simpa using h3
     heap:=fun id ob h=>by
      cases id with
      |succ id=>simp at h
      |zero=>
        simp at h;subst h;simp only[aA];exact⟨trivial,fun j m hm=>by simp at hm,fun i j m m' g hm=>by simp at hm,fun g hg=>hg.elim,fun g=>⟨fun h=>h.elim,fun⟨j,m,hm,_⟩=>by simp at hm⟩,fun k j n i off c h=>h.elim⟩
     inj:=fun i j oi oj g h h' hg=>hg.elim
     snd:=hM.snd
     sep:=fun p v _ id ob h hg=>hg
     sub:=⟨fun _ _ h=>h,fun _ _ h=>(by cases h),fun _ _ h=>(by cases h),zAd _,hM.gl⟩
     new:=fun _ _ h=>.inl h
     base:=rfl
     blw:=Und.refl _ _ }
  refine qe (lx hm (iJ rfl) (B:=⟨w.heap.size,fun _=>False,[],#[],w.heap.size,noJ,[],fun _ _ _ _ _ _=>False⟩) hc ?_ H (hW (cB hus)));intro e κ M1 σ a w1 hR H1;simp only[G8]at hR;obtain⟨he,hR⟩:=hR;split at hR
  ·rename_i vs hvs
   obtain⟨ms,F,ws,hms,hws,hR⟩:=hR
   ·have hp:=br hms
    obtain⟨ds,k1,k2⟩:=fW hr H1 hvs;obtain⟨H2,hM1⟩:=H1.kill [0] (fun id hid=>by simp at hid;subst hid;exact⟨_,hp⟩)
    have k3:ac (ext M1 w1 (fu κ [0])) NX ws ds:=Et H1 hp hM1 hws k1
    have fin:bodyPost P fn (fun e w'=>∃(c:Value)(M':Mem),e=.returned c/\rep M' NX r c/\Below w.heap.size w w'/\(∀p v,M' p=some v->w'.cell? p=some v)/\
     (∀p v,M p=some v->M' p=some v)/\∀p v,M' p=some v->M p=some v\/w.heap.size<=p.block) .normal a w1:=by
     refine⟨H1.dfr,_,k2,_,_,rfl,?_,⟨H1.blw.os,H1.blw.tape,H1.blw.output,H1.blw.size,fun k hk=>H1.blw.block k hk id⟩,H2.snd,H2.sub.sub,fun p v h=>(H2.new p v h).imp_right fun h=>h.elim id False.elim⟩;subst hR
     match ws,ds,k3 with
     |[],[],k3=>simp only[eN,rep];exact⟨#[],rfl,by simp[ac]⟩
     |[v],[d],k3=>
       simp only[ac]at k3;obtain⟨_,_,h1,h2,_⟩:=k3;cases h1;simpa[eN]using h2
     |v::v'::vs',d::d'::ds',k3=>
       have e:(if h:(d::d'::ds').length=1 then(d::d'::ds')[0]else .tuple (d::d'::ds').toArray)=.tuple (d::d'::ds').toArray:=dif_neg (by simp)
       rw[e];simp only[eN,rep];exact⟨_,rfl,by simpa using k3⟩
     |[],d::ds,k3=>simp[ac]at k3
     |v::vs,[],k3=>simp[ac]at k3
     |[v],d::d'::ds,k3=>simp[ac]at k3
     |v::v'::vs,[d],k3=>
       simp only[ac]at k3;obtain⟨c,cs',h1,_,c2,cs2,h2,_⟩:=k3;cases h1;cases h2
    cases e with
    |norm=>exact fin
    |ret=>exact fin
    |exit id=>exact he.elim
    |goto l=>exact he.elim
  ·exact hR.elim
theorem FnE.of_imageQ{f:FuncId}{fn:Func}{E:List Nat}{us:List V}{r:V}{x:AC}{K:List (List Nat)}{rs:List RV}{n:Nat}(hm:P.follows .mixedOrders=true)(hf:P.funcs[f]?=some fn)
 (hi:aJ P fn [] E K n=some (x,rs)) (hn:us.length=n) (hW:oks us->W (Cn P) x (G8 rs r) ⟨ent 0 us,[some (.pool [])]⟩):FnE P f us r:=by
 unfold aJ at hi;split at hi
 ·split at hi
  ·split at hi
   ·rename_i hc
    cases hi;exact FnE.of_WQ hm hf ‹_› hc.1 (cQ ‹_›) ‹_› (by rw[hn];exact hc.2.1) hW
   ·cases hi
  ·cases hi
 ·cases hi
end
def Hz(r:V)(σ:St)(vs:List V):Prop:=∃ms F ws,σ.pl?=some ms/\dV (frz ms F) vs=some ws/\eN ws=r
theorem Kf{rs:List RV}{r:V}{σ:St}:G8 rs r .norm σ=oM (σ.rvs rs) (Hz r σ):=by
 unfold G8 oM;cases σ.rvs rs<;>simp[Hz]
theorem NO{rs:List RV}{r:V}{σ:St}:G8 rs r .ret σ=oM (σ.rvs rs) (Hz r σ):=by
 unfold G8 oM;cases σ.rvs rs<;>simp[Hz]
attribute [simp] Kf NO
end Go.Abs
end
