/- Arguments that are read as data: what stands for them. No condition. -/
import Derived.Test.YtnnbodoijkbceaaGreatDoorJAbs9
import Derived.ProofKit
import Derived.SizedLaws
import Derived.Test.YtnnbodoijkbceaaGreatDoorJF17
import Derived.KernelRfl
set_option linter.all false
set_option maxHeartbeats 0
set_option maxRecDepth 100000
open List renaming mem_append→zAa,getElem?_eq_getElem→zAb,getElem?_eq_some_iff→zAd,eq_nil_of_length_eq_zero→zAe,all_eq_true→zAg,mem_of_getElem?→zAh,getElem?_map→zAj,append_nil→zBa,mem_cons→zBb
open Bool renaming and_eq_true→zAc
open Array renaming getElem?_eq_getElem→zAf
open Option.some renaming injEq→zAi
open Nat renaming zero_mul→zBc
section
namespace Go.Abs
open Go.RowKit
inductive HasTy (P:Program):TypeId->V->Prop
 |bool {t b}:P.underlying t=some .bool->HasTy P t (.bool b)
 |int {t k n}:P.underlying t=some (.int k)->k.min<=n->n<=k.max->HasTy P t (.int k n)
 |str {t s}:P.underlying t=some .string->s.length<=reachBytes->HasTy P t (.str s)
 |seq {t e l}:P.underlying t=some (.slice e)->(∀u,u∈l->HasTy P e u)->l.length<=reachBytes->HasTy P t (.seq (P.cellsOf e) l)
 |strct {t:TypeId} {fs:Array Field} {us:List V}:P.underlying t=some (.struct fs)->us.length=fs.size->(∀(i:Nat)(f:Field)(u:V),fs[i]?=some f->us[i]?=some u->HasTy P f.type u)->HasTy P t (.strct (us.flatMap cl))
def pQ(P:Program):Nat->List Field->Nat->Bool
 |o,[],n=>decide (o=n)
 |o,f::fs,n=>decide (f.offset=o)&&pQ P (o+P.cellsOf f.type) fs n
def qr(P:Program)(S:List TypeId)(t:TypeId):Bool:=
 match P.underlying t with
 |some .bool|some (.int _)|some .string=>true
 |some (.slice e)=>S.contains e&&(decide (0<P.cellsOf e)&&decide (0<P.bytesOf e))
 |some (.struct fs)=>pQ P 0 fs.toList (P.cellsOf t)&&fs.toList.all (fun f=>S.contains f.type)
 |_=>false
variable{H:Type}{enc:TypeId×Value->H}{P:Program}{w:World}{base:Nat}{spare:Nat->Bool}{held:Bool}{S:List TypeId}
def Yf(M:Mem)(u:V)(cs:List Value):Prop:=∃y:Value,rep M NX u y/\y.cells.toList=cs/\∀c∈cs,am c
theorem Rr(M:Mem):∀(fs:List Field)(xs:List (List Value))(us:List V)(o:Nat)(cs:List Value),pQ P o fs (o+cs.length)=true->
 xs.length=fs.length->us.length=fs.length->(∀(i:Nat)(f:Field),fs[i]?=some f->xs[i]?=some ((cs.drop (f.offset-o)).take (P.cellsOf f.type)))->
 (∀(i:Nat)(x:List Value)(u:V),xs[i]?=some x->us[i]?=some u->Yf M u x)->ae M NX (us.flatMap cl) cs/\∀c∈cs,am c
 |[],xs,us,o,cs,hc,hx,hu,_,_=>by
   simp only[pQ,decide_eq_true_eq]at hc;have:cs=[]:=zAe (by omega)
   subst this;have:us=[]:=zAe (by simpa using hu)
   subst this;simp[ae]
 |f::fs,[],us,o,cs,_,hx,_,_,_=>by simp at hx
 |f::fs,x::xs,[],o,cs,_,_,hu,_,_=>by simp at hu
 |f::fs,x::xs,u::us,o,cs,hc,hx,hu,hf,hr=>by
   simp only[pQ,zAc,decide_eq_true_eq]at hc;obtain⟨hfo,hc⟩:=hc;have h0:=hf 0 f rfl;simp only[List.getElem?_cons_zero,zAi,hfo,Nat.sub_self,List.drop_zero]at h0;have hr0:=hr 0 x u rfl rfl
   have mono:∀(fs:List Field)(a b:Nat),pQ P a fs b=true->a<=b/\∀(i:Nat)(f:Field),fs[i]?=some f->a<=f.offset:=by
    intro fs
    induction fs with
    |nil=>intro a b h;simp[pQ]at h;subst h;simp
    |cons g gs ih=>
      intro a b h;simp only[pQ,zAc,decide_eq_true_eq]at h;have:=ih _ _ h.2;refine⟨by omega,fun i f hf=>?_⟩
      cases i with
      |zero=>simp at hf;subst hf;omega
      |succ i=>have:=this.2 i f (by simpa using hf);omega
   have hm:=mono _ _ _ hc;have hlen:P.cellsOf f.type<=cs.length:=by omega
   have key:=Rr M fs xs us (o+P.cellsOf f.type) (cs.drop (P.cellsOf f.type))
    (by rw[List.length_drop,show o+P.cellsOf f.type+(cs.length-P.cellsOf f.type)=o+cs.length by omega];exact hc)
    (by simpa using hx) (by simpa using hu)
    (fun i g hg=>by
      have h1:=hf (i+1) g (by simpa using hg)
      have h2:=hm.2 i g hg;rw[List.drop_drop,show P.cellsOf f.type+(g.offset-(o+P.cellsOf f.type))=g.offset-o by omega]
      simpa using h1)
    (fun i y v hy hv=>hr (i+1) y v (by simpa using hy) (by simpa using hv))
   obtain⟨y,hy1,hy2,hy3⟩:=hr0;have hcat:cs=x++cs.drop (P.cellsOf f.type):=by rw[h0,List.take_append_drop]
   have hrx:ae M NX (cl u) x:=by
    have:=Om hy1 (by
     by_cases hs:∃cs,u=.strct cs
     ·exact .inr hs
     ·refine .inl ?_
      cases u<;>simp only[rep]at hy1<;>first
       |(exfalso;exact hs ⟨_,rfl⟩)
       |(obtain⟨rfl,_⟩:=hy1;rfl)
       |(subst hy1;rfl)
       |(obtain⟨_,rfl,_⟩:=hy1;rfl)
       |(obtain⟨_,_,rfl,_⟩:=hy1;rfl)
       |(obtain⟨_,_,_,rfl,_⟩:=hy1;rfl)
       |exact bU hy1
       |(exact hy1.elim))
    rwa[hy2]at this
   rw[hcat,List.flatMap_cons]
   have app:∀(a:List V)(x:List Value)(b:List V)(z:List Value),ae M NX a x->ae M NX b z->ae M NX (a++b) (x++z):=by
    intro a
    induction a with
    |nil=>intro x b z h1 h2;simp only[ae]at h1;subst h1;simpa using h2
    |cons v a ih=>
      intro x b z h1 h2;simp only[ae]at h1;obtain⟨c,cs',rfl,h3,h4⟩:=h1;simp only[List.cons_append,ae];exact⟨c,_,rfl,h3,ih _ _ _ h4 h2⟩
   refine⟨app _ _ _ _ hrx key.1,fun c hc=>?_⟩;rcases zAa.1 hc with h|h
   ·exact hy3 c h
   ·exact key.2 c h
theorem pick{α β:Type}{R:Nat->α->β->Prop}:∀(l:List α),(∀(i:Nat)(a:α),l[i]?=some a->∃b,R i a b)->∃bs:List β,bs.length=l.length/\∀(i:Nat)(a:α)(b:β),l[i]?=some a->bs[i]?=some b->R i a b:=by
 intro l h
 induction l generalizing R with
 |nil=>exact⟨[],rfl,by simp⟩
 |cons x l ih=>
   obtain⟨b,hb⟩:=h 0 x rfl;obtain⟨bs,h1,h2⟩:=ih (R:=fun i=>R (i+1)) (fun i a ha=>h (i+1) a (by simpa using ha))
   refine⟨b::bs,by simp[h1],fun i a c ha hc=>?_⟩
   cases i with
   |zero=>simp at ha hc;subst ha;subst hc;exact hb
   |succ i=>exact h2 i a c (by simpa using ha) (by simpa using hc)
theorem DN(M:Mem)(sz:Nat):∀(l:List V)(b off:Nat),(∀(i:Nat)(u:V),l[i]?=some u->∃y:Value,rep M NX u y/\y.cells.size=sz/\(∀c∈y.cells.toList,am c)/\∀j,j<sz->M ⟨b,off+i*sz+j,none⟩=y.cells[j]?)->bB M sz l b off
 |[],_,_,_=>trivial
 |v::l,b,off,h=>by
   simp only[bB];obtain⟨y,h1,h2,h3,h4⟩:=h 0 v rfl;refine⟨⟨y,h1,h2,h3,fun j hj=>by have:=h4 j hj;simpa using this⟩,DN M sz l b (off+sz) fun i u hu=>?_⟩
   obtain⟨y,h1,h2,h3,h4⟩:=h (i+1) u (by simpa using hu)
   refine⟨y,h1,h2,h3,fun j hj=>?_⟩;rw[show off+sz+i*sz=off+(i+1)*sz by rw[Nat.succ_mul];omega]
   exact h4 j hj
theorem ol{e:TypeId}:∀{ds:List (DataW H)}{d:DataW H},d∈ds->∀n∈d.weights P e,n∈DataW.weightsAll P e ds
 |[],d,h,_,_=>by cases h
 |x::ds,d,h,n,hn=>by
   simp only[DataW.weightsAll,zAa];rcases zBb.1 h with rfl|h
   ·exact .inl hn
   ·exact .inr (ol h n hn)
theorem Rl:reachBytes<=140737488355328:=by decide
theorem U1(hS:S.all (qr P S)=true):∀(fuel:Nat)(t:TypeId)(cs:List Value)(x:DataW H×List MemPlace),DataW.trod enc P w 0 spare held fuel t cs=some x->t∈S->
 (∀n∈x.1.weights P t,n<=reachBytes)->∃u,HasTy P t u/\Yf (fun p=>w.cell? p) u cs:=by
 intro fuel
 induction fuel with
 |zero=>intro t cs x h;simp[DataW.trod]at h
 |succ m ih=>
   intro t cs x h ht hw;have hp:=zAg.1 hS t ht;unfold qr at hp;split at hp
   ·rename_i hu
    obtain⟨b,rfl,rfl⟩:=DataW.trod_bool hu h;exact⟨.bool b,.bool hu,.bool b,rfl,rfl,by simp[am,Value.oneCell']⟩
   ·rename_i k hu
    obtain⟨n,rfl,rfl,hn⟩:=DataW.trod_int hu h;simp only[Lit.wf,zAc,decide_eq_true_eq]at hn;exact⟨.int k n,.int hu hn.1 hn.2,.int k n,⟨rfl,hn⟩,rfl,by simp[am,Value.oneCell']⟩
   ·rename_i hu
    obtain⟨s,rfl,rfl,hs⟩:=DataW.trod_string hu h;have hl:s.data.toList.length<=reachBytes:=hw _ (by simp[DataW.weights])
    exact⟨.str s.data.toList,.str hu hl,.string s,⟨s,rfl,rfl,Nat.le_trans hl (by decide)⟩,rfl,by simp[am,Value.oneCell']⟩
   ·rename_i e hu
    simp only[zAc,decide_eq_true_eq,List.contains_iff_mem]at hp;obtain⟨he,hc,hb⟩:=hp;rcases DataW.trod_slice hu h with⟨rfl,rfl⟩|⟨a,len,cap,elems,rest,n,hfu,rfl,rfl,hba,hlc,hcm,hel,hall,_,_⟩
    ·refine⟨.seq (P.cellsOf e) [],.seq hu (by simp) (by simp),.slice none 0 0,?_,rfl,by simp[am,Value.oneCell']⟩
     simp only[rep];exact⟨none,0,rfl,by simp,by simp,hc,.inl trivial⟩
    ·have hn:n=m:=by omega
     subst hn
     have hwl:(elems.length+rest.length)*P.bytesOf e<=reachBytes:=by
      have:=hw ((elems.length+rest.length)*P.bytesOf e) (by simp[DataW.weights,hu])
      exact this
     have hlen:elems.length<=reachBytes:=by
      have h1:(elems.length+rest.length)*1<=(elems.length+rest.length)*P.bytesOf e:=Nat.mul_le_mul_left _ hb;omega
     have key:∀(i:Nat)(y:DataW H×List MemPlace),elems[i]?=some y->∃u:V,HasTy P e u/\∃z:Value,rep (fun p=>w.cell? p) NX u z/\z.cells.size=P.cellsOf e/\(∀c∈z.cells.toList,am c)/\∀j,j<P.cellsOf e->w.cell? (((a.add (i*P.cellsOf e))).add j)=z.cells[j]?:=by
      intro i y hy;have hi:=(zAd.1 hy).1;have h1:=hall i (by omega)
      rw[hy,Option.bind_eq_some_iff]at h1;obtain⟨cs',h2,h3⟩:=h1;have hm:y.1∈elems.map (·.1):=List.mem_map_of_mem (zAh hy)
      obtain⟨u,hu1,z,hz1,hz2,hz3⟩:=ih e cs' y h3 he (fun k hk=>hw k (by
       simp only[DataW.weights,hu,zBb,zAa];exact .inr (.inl (ol hm k hk))))
      obtain⟨_,hl,hg⟩:=World.cells?_some h2;refine⟨u,hu1,z,hz1,?_,?_,fun j hj=>?_⟩
      ·rw[<-hl,<-hz2];simp
      ·rw[hz2];exact hz3
      ·rw[hg j hj,<-hz2];simp
     obtain⟨us,hul,hus⟩:=pick elems key;refine⟨.seq (P.cellsOf e) us,.seq hu (fun u hu'=>?_) (by omega),.slice (some a) len cap,?_,rfl,by simp[am,Value.oneCell']⟩
     ·obtain⟨i,hi⟩:=List.mem_iff_getElem?.1 hu'
      have hil:=(zAd.1 hi).1;obtain⟨y,hy⟩:∃y,elems[i]?=some y:=⟨_,zAb (by omega)⟩
      exact(hus i y u hy hi).1
     ·simp only[rep]
      refine⟨some a,cap,by rw[hul,hel],by omega,by have:=Rl;omega,hc,?_⟩
      cases us with
      |nil=>exact .inl rfl
      |cons u0 us'=>
        refine .inr ⟨a.block,a.off,?_,DN _ _ _ _ _ fun i u hi=>?_⟩
        ·obtain⟨y,hy⟩:∃y,elems[0]?=some y:=⟨_,zAb (by rw[<-hul];simp)⟩
         obtain⟨_,z,_,hz2,_,hz4⟩:=hus 0 y u0 hy rfl;have h0:=hz4 0 hc;rw[zAf (by omega)]at h0
         simp only[zBc,Addr.add,if_true]at h0
         have hsp:a.spot=none:=by
          unfold World.cell? at h0;split at h0
          ·split at h0
           ·cases h0
           ·rename_i hns;simpa using hns
          ·cases h0
         cases a;simp_all
        ·have hil:=(zAd.1 hi).1
         obtain⟨y,hy⟩:∃y,elems[i]?=some y:=⟨_,zAb (by omega)⟩
         obtain⟨_,z,hz1,hz2,hz3,hz4⟩:=hus i y u hy hi;obtain⟨y0,hy0⟩:∃y,elems[0]?=some y:=⟨_,zAb (by rw[<-hul];simp)⟩
         obtain⟨_,z0,_,hz20,_,hz40⟩:=hus 0 y0 u0 hy0 rfl;have h0:=hz40 0 hc;rw[zAf (by omega)]at h0
         simp only[zBc,Addr.add,if_true]at h0
         have hsp:a.spot=none:=by
          unfold World.cell? at h0;split at h0
          ·split at h0
           ·cases h0
           ·rename_i hns;simpa using hns
          ·cases h0
         refine⟨z,hz1,hz2,hz3,fun j hj=>?_⟩;have:=hz4 j hj;rw[<-this]
         show w.cell? _=_
         congr 1;unfold Addr.add;obtain⟨ab,ao,asp⟩:=a;simp only at hsp;subst hsp;split<;>split<;>simp<;>omega
   ·rename_i fs hu
    simp only[zAc]at hp;obtain⟨hct,hfs⟩:=hp;obtain⟨xs,n,hfu,rfl,hcl,hxl,hx⟩:=DataW.trod_struct hu h;have hn:n=m:=by omega
    subst hn
    have key:∀(i:Nat)(f:Field),fs.toList[i]?=some f->∃u:V,HasTy P f.type u/\Yf (fun p=>w.cell? p) u ((cs.drop f.offset).take (P.cellsOf f.type)):=by
     intro i f hf;have hf':fs[i]?=some f:=by simpa using hf
     have h1:=hx i f hf';have hi:i<xs.length:=by rw[hxl];exact(Array.getElem?_eq_some_iff.1 hf').1
     rw[zAb hi]at h1
     have hfS:f.type∈S:=by
      have:=zAg.1 hfs f (zAh hf);simpa using this
     refine ih f.type _ _ h1 hfS (fun k hk=>hw k ?_);simp only[DataW.weights,hu];exact DataW.weights_mem_each (j:=i) (t:=f.type) (d:=xs[i].1) (by simp[hf']) (by simp[hi]) k hk
    obtain⟨us,hul,hus⟩:=pick fs.toList key
    have hpc:=Rr (P:=P) (fun p=>w.cell? p) fs.toList (fs.toList.map fun f=>(cs.drop f.offset).take (P.cellsOf f.type)) us 0 cs (by rw[Nat.zero_add,hcl];exact hct) (by simp) hul
     (fun i f hf=>by rw[zAj,hf];rfl)
     (fun i x u hx' hu'=>by
       rw[zAj]at hx';cases hf:fs.toList[i]? with
       |none=>rw[hf]at hx';cases hx'
       |some f=>
         rw[hf]at hx';simp only[Option.map_some,zAi]at hx';subst hx';exact(hus i f u hf hu').2)
    refine⟨.strct (us.flatMap cl),.strct hu (by simpa using hul) (fun i f u hf hu'=>(hus i f u (by simpa using hf) hu').1),.agg cs.toArray,?_,by simp[Value.cells],hpc.2⟩
    simp only[rep];exact⟨cs.toArray,rfl,by simpa using hpc.1,by simpa using hpc.2⟩
   ·cases hp
end Go.Abs
end
section
namespace Go.Abs
open Go.RowKit Go.ChangeShapes Go.WideShapes Go.ChangeAt
variable{H:Type}{enc:TypeId×Value->H}{P:Program}
theorem Bn{w:World}{r:Reach}{base:Nat}{t:TypeId}{v:Value}(h:Value.okWide P w r base t v)(hn:∀fs,P.underlying t≠some (.struct fs))(ha:∀n e,P.underlying t≠some (.array n e)):∀cs,v≠.agg cs:=by
 intro cs e;subst e;unfold Value.okWide at h;split at h
 ·rename_i fs hu;exact hn _ hu
 ·rename_i n e hu;exact ha _ _ hu
 ·unfold Cell.okWide at h
  split at h<;>try (simp_all;done)
  unfold Cell.ok at h;split at h<;>simp_all
theorem Rs{S:List TypeId}{w:World}{spare:Nat->Bool}{held:Bool}(hS:S.all (qr P S)=true){t:TypeId}{v:Value}{d:DataW H}{ps:List MemPlace}(ht:t∈S)(h:DataW.Trod enc P w 0 spare held t v d ps)
 {r:Reach} {base:Nat} (hok:Value.okWide P w r base t v) (hw:∀n∈d.weights P t,n<=reachBytes):∃u,HasTy P t u/\rep (fun p=>w.cell? p) NX u v:=by
 obtain⟨fuel,h⟩:=h;obtain⟨u,hu,y,hy,hyc,_⟩:=U1 hS fuel t _ _ h ht hw;refine⟨u,hu,?_⟩
 have e:y=v:=by
  have scal:(∀fs,P.underlying t≠some (.struct fs))->(∀n e,P.underlying t≠some (.array n e))->y.cells=#[y]->y=v:=by
   intro h1 h2 h3;have hv:=Bn hok h1 h2
   have:v.cells=#[v]:=by
    cases v with
    |agg cs=>exact absurd rfl (hv cs)
    |_=>rfl
   rw[h3,this]at hyc;simpa using hyc
  cases hu with
  |bool hu=>exact scal (by simp[hu]) (by simp[hu]) (by simp only[rep]at hy;subst hy;rfl)
  |int hu _ _=>exact scal (by simp[hu]) (by simp[hu]) (by simp only[rep]at hy;obtain⟨rfl,_⟩:=hy;rfl)
  |str hu _=>exact scal (by simp[hu]) (by simp[hu]) (by simp only[rep]at hy;obtain⟨_,rfl,_⟩:=hy;rfl)
  |seq hu _ _=>exact scal (by simp[hu]) (by simp[hu]) (by simp only[rep]at hy;obtain⟨_,_,rfl,_⟩:=hy;rfl)
  |strct hu _ _=>
    simp only[rep]at hy;obtain⟨arr,rfl,_,_⟩:=hy;unfold Value.okWide at hok;rw[hu]at hok;obtain⟨cs,rfl,_,_⟩:=hok;simp only[Value.cells]at hyc;have:arr=cs:=by cases arr;cases cs;simpa using hyc
    rw[this]
 rw[<-e];exact hy
theorem wx{w:World}{base:Nat}{spare:Nat->Bool}{held:Bool}:∀{ts:List TypeId}{vs:List Value}{ds:List (DataW H)}{ps:List MemPlace},DataW.TrodAll enc P w base spare held ts vs ds ps->vs.length=ts.length/\ds.length=ts.length
 |[],[],[],_,_=>⟨rfl,rfl⟩
 |t::ts,v::vs,d::ds,ps,h=>by
   obtain⟨p,q,_,h2,_⟩:=h;have:=wx h2;simp[this.1,this.2]
 |[],_::_,_,_,h=>by simp[DataW.TrodAll]at h
 |[],[],_::_,_,h=>by simp[DataW.TrodAll]at h
 |_::_,[],_,_,h=>by simp[DataW.TrodAll]at h
 |_::_,_::_,[],_,h=>by simp[DataW.TrodAll]at h
def lK(P:Program):List TypeId->List V->Prop
 |[],[]=>True
 |t::ts,u::us=>HasTy P t u/\lK P ts us
 |_,_=>False
theorem DU{S:List TypeId}{w:World}{spare:Nat->Bool}{held:Bool}{r:Reach}{base:Nat}(hS:S.all (qr P S)=true):∀{ts:List TypeId}{vs:List Value}{ds:List (DataW H)}{ps:List MemPlace},(∀t∈ts,t∈S)->DataW.TrodAll enc P w 0 spare held ts vs ds ps->
 (∀(j:Nat)(t:TypeId)(v:Value),ts[j]?=some t->vs[j]?=some v->Value.okWide P w r base t v)->(∀n∈DataW.weightsEach P ts ds,n<=reachBytes)->
 ∃us,lK P ts us/\ae (fun p=>w.cell? p) NX us vs
 |[],[],[],_,_,_,_,_=>⟨[],trivial,rfl⟩
 |t::ts,v::vs,d::ds,ps,hts,h,hok,hw=>by
   obtain⟨p,q,h1,h2,_⟩:=h;simp only[DataW.weightsEach,zAa]at hw;obtain⟨u,hu,hr⟩:=Rs hS (hts t (by simp)) h1 (hok 0 t v rfl rfl) (fun n hn=>hw n (.inl hn))
   obtain⟨us,hus,hrs⟩:=DU (r:=r) (base:=base) hS (fun t ht=>hts t (by simp[ht])) h2 (fun j t v ht hv=>hok (j+1) t v (by simpa using ht) (by simpa using hv)) (fun n hn=>hw n (.inr hn))
   exact⟨u::us,⟨hu,hus⟩,v,vs,rfl,hr,hrs⟩
 |[],_::_,_,_,_,h,_,_=>by simp[DataW.TrodAll]at h
 |[],[],_::_,_,_,h,_,_=>by simp[DataW.TrodAll]at h
 |_::_,[],_,_,_,h,_,_=>by simp[DataW.TrodAll]at h
 |_::_,_::_,[],_,_,h,_,_=>by simp[DataW.TrodAll]at h
theorem Wp(hl:laidOutB P=true){W W':World}(hb:Below W.heap.size W W'){sp:Nat->Bool}:∀{ts:List TypeId}{vs:List Value}{ds:List (DataW H)}{ps:List MemPlace},(∀t∈ts,P.readableRec t=true/\t<P.types.size)->
 DataW.TrodAll enc P W 0 (fun _=>true) true ts vs ds ps->(∀x∈ps,x.block<W.heap.size)->(∀x∈ps,sp x.block=true)->DataW.TrodAll enc P W' 0 sp true ts vs ds ps
 |[],[],[],_,_,h,_,_=>h
 |t::ts,v::vs,d::ds,ps,hts,h,hlt,hsp=>by
   obtain⟨p,q,h1,h2,rfl⟩:=h;have hp:∀x∈p,x.block<W.heap.size:=fun x hx=>hlt x (zAa.2 (.inl hx));refine⟨p,q,?_,Wp hl hb (fun t ht=>hts t (by simp[ht])) h2 (fun x hx=>hlt x (zAa.2 (.inr hx))) (fun x hx=>hsp x (zAa.2 (.inr hx))),rfl⟩
   exact WideElems.Trod_stays hl (hts t (by simp)).1 (hts t (by simp)).2 h1 (fun x hx=>hb.same (hp x hx)) (fun x hx=>hsp x (zAa.2 (.inl hx)))
 |[],_::_,_,_,_,h,_,_=>by simp[DataW.TrodAll]at h
 |[],[],_::_,_,_,h,_,_=>by simp[DataW.TrodAll]at h
 |_::_,[],_,_,_,h,_,_=>by simp[DataW.TrodAll]at h
 |_::_,_::_,[],_,_,h,_,_=>by simp[DataW.TrodAll]at h
theorem OU{S:List TypeId}(hS:S.all (qr P S)=true)(hl:laidOutB P=true){f:FuncId}{fn:Func}{s:ChangeSpec}{tb:TypeId}(hvars:s.vars=[])(hfn:∀ds:List (DataW H),ds.length=fn.params.size->s.fn H ds={ results:=[.lit (.bool true)],args:=ds })
 (hres:fn.resultTypes=#[tb]) (hb:P.underlying tb=some .bool) (hts:∀t∈fn.params.toList,t∈S/\P.readableRec t=true/\t<P.types.size)
 {W:World} {base:Nat} {args:Array Value} {ds gs:List (DataW H)} {before:List MemPlace}
 (hval:∀(j:Nat)t v,fn.params[j]?=some t->args[j]?=some v->Value.okWide P W .any base t v)
 (hW:DataW.Whole enc P fn.params.toList s.vars false W args.toList ds gs before)
 (hwt:(DataW.weightsEach P (fn.params.toList++s.plain.varTypes P) (ds++gs)).all (·<=reachBytes)=true)
 (hgl:Kj (fun p=>W.cell? p)) (hF:∀us,lK P fn.params.toList us->FnE P f us (.bool true)):
 Calls P f args W fun e W'=>∃v,e=.returned v/\s.post enc P fn false true false false W args v W':=by
 have hW':=hW;obtain⟨p,q,hA,hV,rfl,hfz,hnd⟩:=hW;rw[hvars]at hV;obtain⟨rfl,rfl⟩:=trodVars_none hV;simp only[zBa]at hW' hwt;have hlen:=wx hA;have hvt:s.plain.varTypes P=[]:=by simp[ChangeSpec.plain,DataSpec.varTypes,hvars]
 rw[hvt,zBa]at hwt
 have hw:∀n∈DataW.weightsEach P fn.params.toList ds,n<=reachBytes:=fun n hn=>by
  have:=zAg.1 hwt n hn;simpa using this
 obtain⟨us,hus,hru⟩:=DU (r:=.any) (base:=base) hS (fun t ht=>(hts t ht).1) hA (fun j t v ht hv=>hval j t v (by simpa using ht) (by simpa using hv)) hw
 refine((hF us hus).does (fun p=>W.cell? p) W args ⟨fun _ _ h=>h,hgl⟩ hru).mono ?_;rintro e W' ⟨c,M',rfl,hc,hbl,_,_,_⟩;simp only[rep]at hc;subst hc;have hlt:∀x∈p,x.block<W.heap.size:=fun x hx=>hW'.lt x hx;have hsd:s.fn H ds={ results:=[.lit (.bool true)],args:=ds }:=hfn ds (by rw[hlen.2];simp)
 have hr1:∀(b:Nat)(sp:Nat->Bool)(hd:Bool),DataW.TrodAll enc P W' b sp hd fn.resultTypes.toList ((Value.bool true).resultList fn.resultTypes.size) (s.fn H ds).results []:=by
  intro b sp hd;rw[hres,hsd];exact trodAll_mk1 (shut_bool hb true)
 have ha:∀sp:Nat->Bool,(∀x∈p,sp x.block=true)->DataW.TrodAll enc P W' 0 sp true fn.params.toList args.toList (s.fn H ds).args p:=by
  intro sp hsp;rw[hsd];exact Wp hl hbl (fun t ht=>(hts t ht).2) hA hlt hsp
 have hv:∀sp:Nat->Bool,DataW.TrodVars enc P W' sp s.vars (s.fn H ds).vars []:=by
  intro sp;rw[hvars,hsd];rfl
 refine⟨_,rfl,ds,[],p,[],p,[],by simpa using hW',by simpa using hr1 _ _ _,by simpa using ha _ (fun x hx=>by simpa using hlt x hx),by simpa using hv _,hbl.frame _,fun h=>by cases h⟩
end Go.Abs
end
section
namespace Go.Abs
open Go.Proofs
attribute [-simp] getElem?_pos Option.not_isSome List.map_map
section
variable{P:Program}{t e:TypeId}{u:V}
def Wm(P:Program)(t:TypeId):Bool:=match P.underlying t with
 |some .string=>true
 |_=>false
def QB(P:Program)(t:TypeId):Bool:=match P.underlying t with
 |some .bool=>true
 |_=>false
def Wo(P:Program)(t:TypeId)(k:IntKind):Bool:=match P.underlying t with
 |some (.int k')=>decide (k'=k)
 |_=>false
def Wn(P:Program)(t e:TypeId)(sz:Nat):Bool:=match P.underlying t with
 |some (.slice e')=>decide (e'=e)&&decide (P.cellsOf e=sz)
 |_=>false
def Ht(P:Program)(t:TypeId)(ts:List TypeId):Bool:=match P.underlying t with
 |some (.struct fs)=>decide (fs.toList.map (·.type)=ts)
 |_=>false
theorem HasTy.str_of(h:Wm P t=true)(hu:HasTy P t u):∃s,u=.str s/\s.length<=reachBytes:=by
 unfold Wm at h;cases hu with
 |str h2 h3=>exact⟨_,rfl,h3⟩
 |_=>simp_all
theorem HasTy.bool_of(h:QB P t=true)(hu:HasTy P t u):∃b,u=.bool b:=by
 unfold QB at h;cases hu with
 |bool h2=>exact⟨_,rfl⟩
 |_=>simp_all
theorem HasTy.int_of{k:IntKind}(h:Wo P t k=true)(hu:HasTy P t u):∃n,u=.int k n/\k.min<=n/\n<=k.max:=by
 unfold Wo at h;cases hu with
 |int h2 h3 h4=>
   rw[h2]at h;simp only[decide_eq_true_eq]at h;subst h;exact⟨_,rfl,h3,h4⟩
 |_=>simp_all
theorem HasTy.seq_of{sz:Nat}(h:Wn P t e sz=true)(hu:HasTy P t u):∃l,u=.seq sz l/\(∀x∈l,HasTy P e x)/\l.length<=reachBytes:=by
 unfold Wn at h;cases hu with
 |seq h2 h3 h4=>
   rw[h2]at h;simp only[zAc,decide_eq_true_eq]at h;obtain⟨rfl,rfl⟩:=h;exact⟨_,rfl,h3,h4⟩
 |_=>simp_all
theorem Eh:∀{fs:List Field}{us:List V},us.length=fs.length->(∀(i:Nat)(f:Field)(u:V),fs[i]?=some f->us[i]?=some u->HasTy P f.type u)->lK P (fs.map (·.type)) us
 |[],[],_,_=>trivial
 |f::fs,u::us,hl,h=>⟨h 0 f u rfl rfl,Eh (by simpa using hl) fun i f u hf hu=>h (i+1) f u (by simpa using hf) (by simpa using hu)⟩
 |[],_::_,hl,_=>by simp at hl
 |_::_,[],hl,_=>by simp at hl
theorem HasTy.strct_of{ts:List TypeId}(h:Ht P t ts=true)(hu:HasTy P t u):∃us,u=.strct (us.flatMap cl)/\lK P ts us:=by
 unfold Ht at h;cases hu with
 |strct h2 h3 h4=>
   rw[h2]at h;simp only[decide_eq_true_eq]at h;subst h;exact⟨_,rfl,Eh (by simpa using h3) fun i f u hf hu=>h4 i f u (by simpa using hf) hu⟩
 |_=>simp_all
theorem mw{α:Type}{f:α->V}{Q:α->Prop}:∀{l:List V},(∀x∈l,∃a,x=f a/\Q a)->∃xs:List α,l=xs.map f/\∀a∈xs,Q a
 |[],_=>⟨[],rfl,by simp⟩
 |x::l,h=>by
   obtain⟨a,rfl,ha⟩:=h x (by simp)
   obtain⟨xs,rfl,has⟩:=mw (l:=l) (fun y hy=>h y (by simp[hy]))
   exact⟨a::xs,rfl,by simpa using⟨ha,has⟩⟩
theorem lK.one{t:TypeId}{us:List V}(h:lK P [t] us):∃a,us=[a]/\HasTy P t a:=by
 match us,h with
 |[a],h=>exact⟨a,rfl,h.1⟩
 |[],h=>exact h.elim
 |_::_::_,h=>exact h.2.elim
theorem lK.two{t t':TypeId}{us:List V}(h:lK P [t,t'] us):∃a b,us=[a,b]/\HasTy P t a/\HasTy P t' b:=by
 match us,h with
 |a::us,h=>
   obtain⟨b,rfl,hb⟩:=lK.one h.2;exact⟨a,b,rfl,h.1,hb⟩
 |[],h=>exact h.elim
theorem lK.three{t t' t2:TypeId}{us:List V}(h:lK P [t,t',t2] us):∃a b c,us=[a,b,c]/\HasTy P t a/\HasTy P t' b/\HasTy P t2 c:=by
 match us,h with
 |a::us,h=>
   obtain⟨b,c,rfl,hb⟩:=lK.two h.2;exact⟨a,b,c,rfl,h.1,hb⟩
 |[],h=>exact h.elim
theorem lK.four{t t' t2 t3:TypeId}{us:List V}(h:lK P [t,t',t2,t3] us):∃a b c d,us=[a,b,c,d]/\HasTy P t a/\HasTy P t' b/\HasTy P t2 c/\HasTy P t3 d:=by
 match us,h with
 |a::us,h=>
   obtain⟨b,c,d,rfl,hb⟩:=lK.three h.2;exact⟨a,b,c,d,rfl,h.1,hb⟩
 |[],h=>exact h.elim
theorem lK.five{t t' t2 t3 t4:TypeId}{us:List V}(h:lK P [t,t',t2,t3,t4] us):∃a b c d e,us=[a,b,c,d,e]/\HasTy P t a/\HasTy P t' b/\HasTy P t2 c/\HasTy P t3 d/\HasTy P t4 e:=by
 match us,h with
 |a::us,h=>
   obtain⟨b,c,d,e,rfl,hb⟩:=lK.four h.2;exact⟨a,b,c,d,e,rfl,h.1,hb⟩
 |[],h=>exact h.elim
end
end Go.Abs
namespace Go.Abs.F
open Go.Proofs
theorem oE{u:V}(h:HasTy Tryz.prog aU u):∃s,u=.str s/\s.length<=reachBytes:=HasTy.str_of (by kernel_rfl) h
theorem yi{u:V}(h:HasTy Tryz.prog e9 u):∃l:List Str,u=.seq 1 (l.map .str)/\(∀s∈l,s.length<=reachBytes)/\l.length<=reachBytes:=by
 obtain⟨l,rfl,h1,h2⟩:=HasTy.seq_of (e:=aU) (sz:=1) (by kernel_rfl) h
 obtain⟨ats,rfl,h3⟩:=mw (f:=V.str) (Q:=fun s=>s.length<=reachBytes) (l:=l) fun x hx=>oE (h1 x hx);exact⟨ats,rfl,h3,by simpa using h2⟩
theorem U4{u:V}(h:HasTy Tryz.prog b7 u):∃a:Attr,u=a.v/\a.name.length<=reachBytes/\a.value.length<=reachBytes:=by
 obtain⟨us,rfl,h1⟩:=HasTy.strct_of (ts:=[aU,aU]) (by kernel_rfl) h
 obtain⟨a,b,rfl,ha,hb⟩:=h1.two;obtain⟨n,rfl,hn⟩:=oE ha;obtain⟨v,rfl,hv⟩:=oE hb;exact⟨⟨n,v⟩,rfl,hn,hv⟩
def Constraint.fits(c:Constraint):Prop:=(∀s∈c.words,s.length<=reachBytes)/\c.words.length<=reachBytes/\c.regex.length<=reachBytes
theorem Bo{u:V}(h:HasTy Tryz.prog dR u):∃c:Constraint,u=c.v/\c.fits:=by
 obtain⟨us,rfl,h1⟩:=HasTy.strct_of (ts:=[bQ,e9,aU]) (by kernel_rfl) h
 obtain⟨a,b,c,rfl,ha,hb,hc⟩:=h1.three;obtain⟨n,rfl,hn⟩:=HasTy.int_of (k:=.i64) (by kernel_rfl) ha
 obtain⟨l,rfl,hl⟩:=yi hb;obtain⟨r,rfl,hr⟩:=oE hc;exact⟨⟨n,l,r⟩,rfl,hl.1,hl.2,hr⟩
theorem U2{u:V}(h:HasTy Tryz.prog dW u):∃r:Rule,u=r.v/\r.name.length<=reachBytes/\r.value.fits:=by
 obtain⟨us,rfl,h1⟩:=HasTy.strct_of (ts:=[aU,dR,ya]) (by kernel_rfl) h
 obtain⟨a,b,c,rfl,ha,hb,hc⟩:=h1.three;obtain⟨n,rfl,hn⟩:=oE ha;obtain⟨k,rfl,hk⟩:=Bo hb;obtain⟨r,rfl⟩:=HasTy.bool_of (by kernel_rfl) hc
 exact⟨⟨n,k,r⟩,rfl,hn,hk⟩
def Allowed.fits(a:Allowed):Prop:=a.name.length<=reachBytes/\(∀s∈a.kids,s.length<=reachBytes)/\a.kids.length<=reachBytes/\(∀r∈a.rules,r.name.length<=reachBytes/\r.value.fits)/\a.rules.length<=reachBytes
theorem KZ{u:V}(h:HasTy Tryz.prog bR u):∃a:Allowed,u=a.v/\a.fits:=by
 obtain⟨us,rfl,h1⟩:=HasTy.strct_of (ts:=[aU,e9,ml]) (by kernel_rfl) h
 obtain⟨a,b,c,rfl,ha,hb,hc⟩:=h1.three;obtain⟨n,rfl,hn⟩:=oE ha;obtain⟨k,rfl,hk1,hk2⟩:=yi hb;obtain⟨l,rfl,h2,h3⟩:=HasTy.seq_of (e:=dW) (sz:=5) (by kernel_rfl) hc
 obtain⟨rs,rfl,h4⟩:=mw (f:=Rule.v) (l:=l) fun x hx=>U2 (h2 x hx);exact⟨⟨n,k,rs⟩,rfl,hn,hk1,hk2,h4,by simpa using h3⟩
def Policy.fits(p:Policy):Prop:=(∀s∈p.top,s.length<=reachBytes)/\p.top.length<=reachBytes/\(∀e∈p.elements,e.fits)/\p.elements.length<=reachBytes/\(∀s∈p.unwrap,s.length<=reachBytes)/\p.unwrap.length<=reachBytes
theorem Ov{u:V}(h:HasTy Tryz.prog dF u):∃p:Policy,u=p.v/\p.fits:=by
 obtain⟨us,rfl,h1⟩:=HasTy.strct_of (ts:=[e9,iD,e9]) (by kernel_rfl) h
 obtain⟨a,b,c,rfl,ha,hb,hc⟩:=h1.three;obtain⟨n,rfl,hn1,hn2⟩:=yi ha;obtain⟨k,rfl,hk1,hk2⟩:=yi hc;obtain⟨l,rfl,h2,h3⟩:=HasTy.seq_of (e:=bR) (sz:=3) (by kernel_rfl) hb
 obtain⟨rs,rfl,h4⟩:=mw (f:=Allowed.v) (l:=l) fun x hx=>KZ (h2 x hx);exact⟨⟨n,rs,k⟩,rfl,hn1,hn2,h4,by simpa using h3,hk1,hk2⟩
def Node.fits(n:Node):Prop:=n.name.length<=reachBytes/\(∀a∈n.attrs,a.name.length<=reachBytes/\a.value.length<=reachBytes)/\n.attrs.length<=reachBytes/\n.text.length<=reachBytes/\n.kids.length<=reachBytes
theorem KY:∀(sz:Nat)(u:V),SizeOf.sizeOf u<=sz->HasTy Tryz.prog aG u->∃n:Node,u=n.v/\n.fits/\an Node.fits n.kids:=by
 intro sz
 induction sz with
 |zero=>
   intro u hu;cases u<;>simp at hu
 |succ sz ih=>
   intro u hu h;obtain⟨us,rfl,h1⟩:=HasTy.strct_of (ts:=[bQ,aU,mo,aU,dp]) (by kernel_rfl) h
   obtain⟨a,b,c,d,e,rfl,ha,hb,hc,hd,he⟩:=h1.five;obtain⟨k,rfl,hk⟩:=HasTy.int_of (k:=.i64) (by kernel_rfl) ha
   obtain⟨nm,rfl,hn⟩:=oE hb;obtain⟨tx,rfl,htx⟩:=oE hd;obtain⟨l,rfl,h2,h3⟩:=HasTy.seq_of (e:=b7) (sz:=2) (by kernel_rfl) hc
   obtain⟨ats,rfl,h4⟩:=mw (f:=Attr.v) (l:=l) fun x hx=>U4 (h2 x hx);obtain⟨m,rfl,h5,h6⟩:=HasTy.seq_of (e:=aG) (sz:=5) (by kernel_rfl) he
   obtain⟨ks,hks,h7⟩:=mw (f:=Node.v) (Q:=fun n=>n.fits/\an Node.fits n.kids) (l:=m) fun x hx=>ih x (by
    have:=List.sizeOf_lt_of_mem hx;simp[cl]at hu;omega) (h5 x hx)
   subst hks;refine⟨⟨k,nm,ats,tx,ks⟩,?_,⟨hn,h4,by simpa using h3,htx,by simpa using h6⟩,aP.2 h7⟩
   rw[Node.v_eq];rfl
theorem U3(u:V)(h:HasTy Tryz.prog aG u):∃n:Node,u=n.v/\n.fits/\an Node.fits n.kids:=KY _ u (Nat.le_refl _) h
theorem Rt{u:V}(h:HasTy Tryz.prog dp u):∃l:List Node,u=.seq 5 (l.map Node.v)/\an Node.fits l/\l.length<=reachBytes:=by
 obtain⟨m,rfl,h5,h6⟩:=HasTy.seq_of (e:=aG) (sz:=5) (by kernel_rfl) h
 obtain⟨ks,rfl,h7⟩:=mw (f:=Node.v) (Q:=fun n=>n.fits/\an Node.fits n.kids) (l:=m) fun x hx=>U3 x (h5 x hx);exact⟨ks,rfl,aP.2 h7,by simpa using h6⟩
end Go.Abs.F
end
