/- Arguments that are read as data: what stands for them. No condition. -/
import Derived.Test.YtbekkicfbnaaaaaGreatDoorVAbs8
import Derived.ProofKit
import Derived.SizedLaws
import Derived.Test.YtbekkicfbnaaaaaGreatDoorVF17
import Derived.KernelRfl
set_option linter.all false open List renaming mem_append→zAa,getElem?_eq_getElem→zAb,getElem?_eq_some_iff→zAd,eq_nil_of_length_eq_zero→zAe,all_eq_true→zAg,mem_of_getElem?→zAh,getElem?_map→zAj,append_nil→zBa,mem_cons→zBb
open Bool renaming and_eq_true→zAc
open Array renaming getElem?_eq_getElem→zAf
open Option.some renaming injEq→zAi
open Nat renaming zero_mul→zBc open Option renaming some→ś open Bool renaming true→ť open Go.Proofs.Tryz renaming prog→ŷ
section
namespace Go.Abs
open Go.RowKit
inductive HasTy (P:Program):TypeId->V->Prop
 |bool {t b}:P.underlying t=ś .bool->HasTy P t (.bool b)
 |int {t k n}:P.underlying t=ś (.int k)->k.min<=n->n<=k.max->HasTy P t (.int k n)
 |str {t s}:P.underlying t=ś .string->s.length<=reachBytes->HasTy P t (.str s)
 |seq {t e l}:P.underlying t=ś (.slice e)->(∀u,u∈l->HasTy P e u)->l.length<=reachBytes->HasTy P t (.seq (P.cellsOf e) l)
 |strct {t:TypeId} {fs:Array Field} {us:List V}:P.underlying t=ś (.struct fs)->us.length=fs.size->(∀(i:Nat)(f:Field)(u:V),fs[i]?=ś f->us[i]?=ś u->HasTy P f.type u)->HasTy P t (.strct (us.flatMap cl))
def xl(P:Program):Nat->List Field->Nat->Bool
 |o,[],n=>decide (o=n)
 |o,f::fs,n=>decide (f.offset=o)&&xl P (o+P.cellsOf f.type) fs n
def yg(P:Program)(S:List TypeId)(t:TypeId):Bool:=
 match P.underlying t with
 |some .bool|some (.int _)|some .string=>ť
 |some (.slice e)=>S.contains e&&(decide (0<P.cellsOf e)&&decide (0<P.bytesOf e))
 |some (.struct fs)=>xl P 0 fs.toList (P.cellsOf t)&&fs.toList.all (λf=>S.contains f.type)
 |_=>false
variable {H:Type}{enc:TypeId×Value->H}{P:Program}{w:World}{base:Nat}{spare:Nat->Bool}{held:Bool}{S:List TypeId}
def akz(M:Mem)(u:V)(cs:List Value):Prop:=∃y:Value,rep M NX u y/\y.cells.toList=cs/\∀c∈cs,aI c
theorem ae5(M):∀(fs:List Field)(xs:List (List Value))(us:List V)(o:Nat)(cs:List Value),xl P o fs (o+cs.length)=ť->
 xs.length=fs.length->us.length=fs.length->(∀(i:Nat)(f:Field),fs[i]?=ś f->xs[i]?=ś ((cs.drop (f.offset-o)).take (P.cellsOf f.type)))->
 (∀(i:Nat)(x:List Value)(u:V),xs[i]?=ś x->us[i]?=ś u->akz M u x)->af M NX (us.flatMap cl) cs/\∀c∈cs,aI c
 |[],xs,us,o,cs,hc,hx,hu,_,_=>by
   simp_all[xl,decide_eq_true_eq,zAe,af]
 |f::fs,[],us,o,cs,_,hx,_,_,_=>by simp at hx
 |f::fs,x::xs,[],o,cs,_,_,hu,_,_=>by simp at hu
 |f::fs,x::xs,u::us,o,cs,hc,hx,hu,hf,hr=>by
   simp only[xl,zAc,decide_eq_true_eq]at hc;obtain⟨hfo,hc⟩:=hc;have h0:=hf 0 f rfl;simp only[List.getElem?_cons_zero,zAi,hfo,Nat.sub_self,List.drop_zero]at h0;have hr0:=hr 0 x u rfl rfl
   have mono:∀(fs:List Field)(a b:Nat),xl P a fs b=ť->a<=b/\∀(i:Nat)(f:Field),fs[i]?=ś f->a<=f.offset:=by
    intro fs
    induction fs with
    |nil=>grind[xl]
    |cons g gs ih=>
      intro a b h;simp only[xl,zAc,decide_eq_true_eq]at h;grind
   have hm:=mono _ _ _ hc;have hlen:P.cellsOf f.type<=cs.length:=by omega
   have key:=ae5 M fs xs us (o+P.cellsOf f.type) (cs.drop (P.cellsOf f.type))
    (by grind)
    (by simpa using hx) (by simpa using hu)
    (λi g hg=>by
      have h1:=hf (i+1) g (by simpa using hg)
      grind[List.drop_drop])
    (λi y v hy hv=>hr (i+1) y v (by simpa using hy) (by simpa using hv))
   obtain⟨y,hy1,hy2,hy3⟩:=hr0;have hcat:cs=x++cs.drop (P.cellsOf f.type):=by simp_all
   have hrx:af M NX (cl u) x:=by
    have:=ab1 hy1 (by
     by_cases hs:∃cs,u=.strct cs
     ·exact .inr hs
     ·refine .inl ?_
      cases u<;>simp only[rep]at hy1<;>first
       |(exfalso;exact hs ⟨_,rfl⟩)
       |(obtain⟨rfl,_⟩:=hy1;rfl)
       |(subst hy1;rfl)
       |(obtain⟨_,rfl,_⟩:=hy1;rfl)
       |(obtain⟨_,_,rfl,_⟩:=hy1;rfl)
       |(obtain⟨_,_,_,rfl,_⟩:=hy1;rfl)
       |exact dM hy1
       |(exact hy1.elim))
    rwa[hy2]at this
   rw[hcat,List.flatMap_cons]
   have app:∀(a:List V)(x:List Value)(b:List V)(z:List Value),af M NX a x->af M NX b z->af M NX (a++b) (x++z):=by
    intro a
    induction a with
    |nil=>grind[af]
    |cons v a ih=>
      intro x b z h1 h2;simp only[af]at h1;obtain⟨c,cs',rfl,h3,h4⟩:=h1;simp only[List.cons_append,af];grind
   grind
theorem pick{α β:Type}{R:Nat->α->β->Prop}:∀(l:List α),(∀(i:Nat)(a:α),l[i]?=ś a->∃b,R i a b)->∃bs:List β,bs.length=l.length/\∀(i:Nat)(a:α)(b:β),l[i]?=ś a->bs[i]?=ś b->R i a b:=by
 intro l h
 induction l generalizing R with
 |nil=>simp
 |cons x l ih=>
   obtain⟨b,hb⟩:=h 0 x rfl;obtain⟨bs,h1,h2⟩:=ih (R:=λi=>R (i+1)) (λi a ha=>h (i+1) a (by simpa using ha))
   refine⟨b::bs,by simp[h1],λi a c ha hc=>?_⟩
   grind
theorem PE(M)(sz):∀(l:List V)(b off:Nat),(∀(i:Nat)(u:V),l[i]?=ś u->∃y:Value,rep M NX u y/\y.cells.size=sz/\(∀c∈y.cells.toList,aI c)/\∀j,j<sz->M ⟨b,off+i*sz+j,none⟩=y.cells[j]?)->cx M sz l b off
 |[],_,_,_=>trivial
 |v::l,b,off,h=>by
   simp only[cx];obtain⟨y,h1,h2,h3,h4⟩:=h 0 v rfl;refine⟨⟨y,h1,h2,h3,λj hj=>by simp_all⟩,PE M sz l b (off+sz) λi u hu=>?_⟩
   obtain⟨y,h1,h2,h3,h4⟩:=h (i+1) u (by simpa using hu)
   grind
theorem vl{e}:∀{ds:List (DataW H)}{d:DataW H},d∈ds->∀n∈d.weights P e,n∈DataW.weightsAll P e ds
 |[],d,h,_,_=>by cases h
 |x::ds,d,h,n,hn=>by
   simp only[DataW.weightsAll,zAa];rcases zBb.1 h with rfl|h
   ·exact .inl hn
   ·exact .inr (vl h n hn)
theorem aeY:reachBytes<=140737488355328:=by decide
theorem aig(hS:S.all (yg P S)=ť):∀(fuel:Nat)(t:TypeId)(cs:List Value)(x:DataW H×List MemPlace),DataW.trod enc P w 0 spare held fuel t cs=ś x->t∈S->
 (∀n∈x.1.weights P t,n<=reachBytes)->∃u,HasTy P t u/\akz (λp=>w.cell? p) u cs:=by
 intro fuel
 induction fuel with
 |zero=>simp_all[DataW.trod]
 |succ m ih=>
   intro t cs x h ht hw;have hp:=zAg.1 hS t ht;unfold yg at hp;split at hp
   ·rename_i hu
    obtain⟨b,rfl,rfl⟩:=DataW.trod_bool hu h;exact⟨.bool b,.bool hu,.bool b,rfl,rfl,by simp[aI,Value.oneCell']⟩
   ·rename_i k hu
    obtain⟨n,rfl,rfl,hn⟩:=DataW.trod_int hu h;simp only[Lit.wf,zAc,decide_eq_true_eq]at hn;exact⟨.int k n,.int hu hn.1 hn.2,.int k n,⟨rfl,hn⟩,rfl,by simp[aI,Value.oneCell']⟩
   ·rename_i hu
    obtain⟨s,rfl,rfl,hs⟩:=DataW.trod_string hu h;have hl:s.data.toList.length<=reachBytes:=hw _ (by simp[DataW.weights])
    exact⟨.str s.data.toList,.str hu hl,.string s,⟨s,rfl,rfl,Nat.le_trans hl (by decide)⟩,rfl,by simp[aI,Value.oneCell']⟩
   ·rename_i e hu
    simp only[zAc,decide_eq_true_eq,List.contains_iff_mem]at hp;obtain⟨he,hc,hb⟩:=hp;rcases DataW.trod_slice hu h with⟨rfl,rfl⟩|⟨a,len,cap,elems,rest,n,hfu,rfl,rfl,hba,hlc,hcm,hel,hall,_,_⟩
    ·refine⟨.seq (P.cellsOf e) [],.seq hu (by simp) (by simp),.slice none 0 0,?_,rfl,by simp[aI,Value.oneCell']⟩
     simp_all[rep,trivial]
    ·have hn:n=m:=by omega
     subst hn
     have hwl:(elems.length+rest.length)*P.bytesOf e<=reachBytes:=by
      simp_all[DataW.weights]
     have hlen:elems.length<=reachBytes:=by
      have h1:(elems.length+rest.length)*1<=(elems.length+rest.length)*P.bytesOf e:=Nat.mul_le_mul_left _ hb;omega
     have key:∀(i:Nat)(y:DataW H×List MemPlace),elems[i]?=ś y->∃u:V,HasTy P e u/\∃z:Value,rep (λp=>w.cell? p) NX u z/\z.cells.size=P.cellsOf e/\(∀c∈z.cells.toList,aI c)/\∀j,j<P.cellsOf e->w.cell? (((a.add (i*P.cellsOf e))).add j)=z.cells[j]?:=by
      intro i y hy;have hi:=(zAd.1 hy).1;have h1:=hall i (by omega)
      rw[hy,Option.bind_eq_some_iff]at h1;obtain⟨cs',h2,h3⟩:=h1;have hm:y.1∈elems.map (·.1):=List.mem_map_of_mem (zAh hy)
      obtain⟨u,hu1,z,hz1,hz2,hz3⟩:=ih e cs' y h3 he (λk hk=>hw k (by
       grind[DataW.weights,vl]))
      obtain⟨_,hl,hg⟩:=World.cells?_some h2;grind
     obtain⟨us,hul,hus⟩:=pick elems key;refine⟨.seq (P.cellsOf e) us,.seq hu (λu hu'=>?_) (by omega),.slice (ś a) len cap,?_,rfl,by simp[aI,Value.oneCell']⟩
     ·grind[List.mem_iff_getElem?,zAd,zAb]
     ·simp only[rep]
      refine⟨ś a,cap,by rw[hul,hel],by omega,by have:=aeY;omega,hc,?_⟩
      cases us with
      |nil=>exact .inl rfl
      |cons u0 us'=>
        refine .inr ⟨a.block,a.off,?_,PE _ _ _ _ _ λi u hi=>?_⟩
        ·obtain⟨y,hy⟩:∃y,elems[0]?=ś y:=⟨_,zAb (by rw[<-hul];simp)⟩
         obtain⟨_,z,_,hz2,_,hz4⟩:=hus 0 y u0 hy rfl;have h0:=hz4 0 hc;rw[zAf (by omega)]at h0
         simp only[zBc,Addr.add,if_true]at h0
         have hsp:a.spot=none:=by
          unfold World.cell? at h0;split at h0
          ·simp_all
          ·cases h0
         cases a;simp_all
        ·have hil:=(zAd.1 hi).1
         obtain⟨y,hy⟩:∃y,elems[i]?=ś y:=⟨_,zAb (by omega)⟩
         obtain⟨_,z,hz1,hz2,hz3,hz4⟩:=hus i y u hy hi;obtain⟨y0,hy0⟩:∃y,elems[0]?=ś y:=⟨_,zAb (by rw[<-hul];simp)⟩
         obtain⟨_,z0,_,hz20,_,hz40⟩:=hus 0 y0 u0 hy0 rfl;have h0:=hz40 0 hc;rw[zAf (by omega)]at h0
         simp only[zBc,Addr.add,if_true]at h0
         have hsp:a.spot=none:=by
          unfold World.cell? at h0;split at h0
          ·simp_all
          ·cases h0
         refine⟨z,hz1,hz2,hz3,λj hj=>?_⟩;have:=hz4 j hj;rw[<-this]
         show w.cell? _=_
         congr 1;unfold Addr.add;obtain⟨ab,ao,asp⟩:=a;simp only at hsp;subst hsp;split<;>split<;>simp<;>omega
   ·rename_i fs hu
    simp only[zAc]at hp;obtain⟨hct,hfs⟩:=hp;obtain⟨xs,n,hfu,rfl,hcl,hxl,hx⟩:=DataW.trod_struct hu h;have hn:n=m:=by omega
    subst hn
    have key:∀(i:Nat)(f:Field),fs.toList[i]?=ś f->∃u:V,HasTy P f.type u/\akz (λp=>w.cell? p) u ((cs.drop f.offset).take (P.cellsOf f.type)):=by
     intro i f hf;have hf':fs[i]?=ś f:=by simpa using hf
     have h1:=hx i f hf';have hi:i<xs.length:=by grind
     rw[zAb hi]at h1
     have hfS:f.type∈S:=by
      grind
     refine ih f.type _ _ h1 hfS (λk hk=>hw k ?_);simp only[DataW.weights,hu];exact DataW.weights_mem_each (j:=i) (t:=f.type) (d:=xs[i].1) (by simp[hf']) (by simp[hi]) k hk
    obtain⟨us,hul,hus⟩:=pick fs.toList key
    have hpc:=ae5 (P:=P) (λp=>w.cell? p) fs.toList (fs.toList.map λf=>(cs.drop f.offset).take (P.cellsOf f.type)) us 0 cs (by simp_all) (by simp) hul
     (λi f hf=>by rw[zAj,hf];rfl)
     (λi x u hx' hu'=>by
       grind)
    refine⟨.strct (us.flatMap cl),.strct hu (by simpa using hul) (λi f u hf hu'=>(hus i f u (by simpa using hf) hu').1),.agg cs.toArray,?_,by simp[Value.cells],hpc.2⟩
    simp_all[rep]
   ·cases hp
end Go.Abs
end
section
namespace Go.Abs
open Go.RowKit Go.ChangeShapes Go.WideShapes Go.ChangeAt
variable {H:Type}{enc:TypeId×Value->H}{P:Program}
theorem L8{w r base t v}(h:Value.okWide P w r base t v)(hn:∀fs,P.underlying t≠ś (.struct fs))(ha:∀n e,P.underlying t≠ś (.array n e)):∀cs,v≠.agg cs:=by
 intro cs e;simp_all[Value.okWide,Cell.okWide,Cell.ok]
theorem ae6{S:List TypeId}{w spare held}(hS:S.all (yg P S)=ť){t v d ps}(ht:t∈S)(h:DataW.Trod enc P w 0 spare held t v d ps)
 {r} {base} (hok:Value.okWide P w r base t v) (hw:∀n∈d.weights P t,n<=reachBytes):∃u,HasTy P t u/\rep (λp=>w.cell? p) NX u v:=by
 obtain⟨fuel,h⟩:=h;obtain⟨u,hu,y,hy,hyc,_⟩:=aig hS fuel t _ _ h ht hw;refine⟨u,hu,?_⟩
 have e:y=v:=by
  have scal:(∀fs,P.underlying t≠ś (.struct fs))->(∀n e,P.underlying t≠ś (.array n e))->y.cells=#[y]->y=v:=by
   intro h1 h2 h3;have hv:=L8 hok h1 h2
   have:v.cells=#[v]:=by
    cases v with
    |agg cs=>simp_all
    |_=>rfl
   simp_all
  cases hu with
  |bool hu=>exact scal (by simp[hu]) (by simp[hu]) (by simp only[rep]at hy;subst hy;rfl)
  |int hu _ _=>exact scal (by simp[hu]) (by simp[hu]) (by simp only[rep]at hy;obtain⟨rfl,_⟩:=hy;rfl)
  |str hu _=>exact scal (by simp[hu]) (by simp[hu]) (by simp only[rep]at hy;obtain⟨_,rfl,_⟩:=hy;rfl)
  |seq hu _ _=>exact scal (by simp[hu]) (by simp[hu]) (by simp only[rep]at hy;obtain⟨_,_,rfl,_⟩:=hy;rfl)
  |strct hu _ _=>
    simp only[rep]at hy;obtain⟨arr,rfl,_,_⟩:=hy;unfold Value.okWide at hok;rw[hu]at hok;obtain⟨cs,rfl,_,_⟩:=hok;simp only[Value.cells]at hyc;simp_all
 rw[<-e];exact hy
theorem FT{w base spare held}:∀{ts:List TypeId}{vs:List Value}{ds:List (DataW H)}{ps:List MemPlace},DataW.TrodAll enc P w base spare held ts vs ds ps->vs.length=ts.length/\ds.length=ts.length
 |[],[],[],_,_=>⟨rfl,rfl⟩
 |t::ts,v::vs,d::ds,ps,h=>by
   obtain⟨p,q,_,h2,_⟩:=h;have:=FT h2;simp[this.1,this.2]
 |[],_::_,_,_,h=>by grind[DataW.TrodAll]
 |[],[],_::_,_,h=>by grind[DataW.TrodAll]
 |_::_,[],_,_,h=>by grind[DataW.TrodAll]
 |_::_,_::_,[],_,h=>by grind[DataW.TrodAll]
def rt(P:Program):List TypeId->List V->Prop
 |[],[]=>True
 |t::ts,u::us=>HasTy P t u/\rt P ts us
 |_,_=>False
theorem PJ{S:List TypeId}{w spare held r base}(hS:S.all (yg P S)=ť):∀{ts:List TypeId}{vs:List Value}{ds:List (DataW H)}{ps:List MemPlace},(∀t∈ts,t∈S)->DataW.TrodAll enc P w 0 spare held ts vs ds ps->
 (∀(j:Nat)(t:TypeId)(v:Value),ts[j]?=ś t->vs[j]?=ś v->Value.okWide P w r base t v)->(∀n∈DataW.weightsEach P ts ds,n<=reachBytes)->
 ∃us,rt P ts us/\af (λp=>w.cell? p) NX us vs
 |[],[],[],_,_,_,_,_=>⟨[],trivial,rfl⟩
 |t::ts,v::vs,d::ds,ps,hts,h,hok,hw=>by
   obtain⟨p,q,h1,h2,_⟩:=h;simp only[DataW.weightsEach,zAa]at hw;obtain⟨u,hu,hr⟩:=ae6 hS (hts t (by simp)) h1 (hok 0 t v rfl rfl) (λn hn=>hw n (.inl hn))
   obtain⟨us,hus,hrs⟩:=PJ (r:=r) (base:=base) hS (λt ht=>hts t (by simp[ht])) h2 (λj t v ht hv=>hok (j+1) t v (by simpa using ht) (by simpa using hv)) (λn hn=>hw n (.inr hn))
   exact⟨u::us,⟨hu,hus⟩,v,vs,rfl,hr,hrs⟩
 |[],_::_,_,_,_,h,_,_=>by grind[DataW.TrodAll]
 |[],[],_::_,_,_,h,_,_=>by grind[DataW.TrodAll]
 |_::_,[],_,_,_,h,_,_=>by grind[DataW.TrodAll]
 |_::_,_::_,[],_,_,h,_,_=>by grind[DataW.TrodAll]
theorem ajs(hl:laidOutB P=ť){W W'}(hb:Below W.heap.size W W'){sp:Nat->Bool}:∀{ts:List TypeId}{vs:List Value}{ds:List (DataW H)}{ps:List MemPlace},(∀t∈ts,P.readableRec t=ť/\t<P.types.size)->
 DataW.TrodAll enc P W 0 (λ_=>ť) ť ts vs ds ps->(∀x∈ps,x.block<W.heap.size)->(∀x∈ps,sp x.block=ť)->DataW.TrodAll enc P W' 0 sp ť ts vs ds ps
 |[],[],[],_,_,h,_,_=>h
 |t::ts,v::vs,d::ds,ps,hts,h,hlt,hsp=>by
   obtain⟨p,q,h1,h2,rfl⟩:=h;have hp:∀x∈p,x.block<W.heap.size:=λx hx=>hlt x (zAa.2 (.inl hx));refine⟨p,q,?_,ajs hl hb (λt ht=>hts t (by simp[ht])) h2 (λx hx=>hlt x (zAa.2 (.inr hx))) (λx hx=>hsp x (zAa.2 (.inr hx))),rfl⟩
   exact WideElems.Trod_stays hl (hts t (by simp)).1 (hts t (by simp)).2 h1 (λx hx=>hb.same (hp x hx)) (λx hx=>hsp x (zAa.2 (.inl hx)))
 |[],_::_,_,_,_,h,_,_=>by grind[DataW.TrodAll]
 |[],[],_::_,_,_,h,_,_=>by grind[DataW.TrodAll]
 |_::_,[],_,_,_,h,_,_=>by grind[DataW.TrodAll]
 |_::_,_::_,[],_,_,h,_,_=>by grind[DataW.TrodAll]
theorem EE{S:List TypeId}(hS:S.all (yg P S)=ť)(hl:laidOutB P=ť){f}{fn:Func}{s:ChangeSpec}{tb}(hvars:s.vars=[])(hfn:∀ds:List (DataW H),ds.length=fn.params.size->s.fn H ds={ results:=[.lit (.bool ť)],args:=ds })
 (hres:fn.resultTypes=#[tb]) (hb:P.underlying tb=ś .bool) (hts:∀t∈fn.params.toList,t∈S/\P.readableRec t=ť/\t<P.types.size)
 {W} {base} {args:Array Value} {ds gs:List (DataW H)} {before:List MemPlace}
 (hval:∀(j:Nat)t v,fn.params[j]?=ś t->args[j]?=ś v->Value.okWide P W .any base t v)
 (hW:DataW.Whole enc P fn.params.toList s.vars false W args.toList ds gs before)
 (hwt:(DataW.weightsEach P (fn.params.toList++s.plain.varTypes P) (ds++gs)).all (·<=reachBytes)=ť)
 (hgl:XA (λp=>W.cell? p)) (hF:∀us,rt P fn.params.toList us->FnE P f us (.bool ť)):
 Calls P f args W λe W'=>∃v,e=.returned v/\s.post enc P fn false ť false false W args v W':=by
 have hW':=hW;obtain⟨p,q,hA,hV,rfl,hfz,hnd⟩:=hW;rw[hvars]at hV;obtain⟨rfl,rfl⟩:=trodVars_none hV;simp only[zBa]at hW' hwt;have hlen:=FT hA;have hvt:s.plain.varTypes P=[]:=by grind[ChangeSpec.plain,DataSpec.varTypes]
 rw[hvt,zBa]at hwt
 have hw:∀n∈DataW.weightsEach P fn.params.toList ds,n<=reachBytes:=λn hn=>by
  simp_all
 obtain⟨us,hus,hru⟩:=PJ (r:=.any) (base:=base) hS (λt ht=>(hts t ht).1) hA (λj t v ht hv=>hval j t v (by simpa using ht) (by simpa using hv)) hw
 refine((hF us hus).does (λp=>W.cell? p) W args ⟨λ_ _ h=>h,hgl⟩ hru).mono ?_;rintro e W' ⟨c,M',rfl,hc,hbl,_,_,_⟩;simp only[rep]at hc;subst hc;have hlt:∀x∈p,x.block<W.heap.size:=λx hx=>hW'.lt x hx;have hsd:s.fn H ds={ results:=[.lit (.bool ť)],args:=ds }:=hfn ds (by rw[hlen.2];simp)
 have hr1:∀(b:Nat)(sp:Nat->Bool)(hd:Bool),DataW.TrodAll enc P W' b sp hd fn.resultTypes.toList ((Value.bool ť).resultList fn.resultTypes.size) (s.fn H ds).results []:=by
  intro b sp hd;rw[hres,hsd];exact trodAll_mk1 (shut_bool hb ť)
 have ha:∀sp:Nat->Bool,(∀x∈p,sp x.block=ť)->DataW.TrodAll enc P W' 0 sp ť fn.params.toList args.toList (s.fn H ds).args p:=by
  grind[ajs]
 have hv:∀sp:Nat->Bool,DataW.TrodVars enc P W' sp s.vars (s.fn H ds).vars []:=by
  intro sp;rw[hvars,hsd];rfl
 refine⟨_,rfl,ds,[],p,[],p,[],by simpa using hW',by simp_all,by simp_all,by simpa using hv _,hbl.frame _,λh=>by cases h⟩
end Go.Abs
end
section
set_option maxRecDepth 100000
namespace Go.Abs
open Go.Proofs
attribute [-simp] getElem?_pos Option.not_isSome List.map_map
section
variable {P:Program}{t e:TypeId}{u:V}
def ajn(P:Program)(t:TypeId):Bool:=match P.underlying t with
 |some .string=>ť
 |_=>false
def aej(P:Program)(t:TypeId):Bool:=match P.underlying t with
 |some .bool=>ť
 |_=>false
def ajp(P:Program)(t:TypeId)(k:IntKind):Bool:=match P.underlying t with
 |some (.int k')=>decide (k'=k)
 |_=>false
def ajo(P:Program)(t e:TypeId)(sz:Nat):Bool:=match P.underlying t with
 |some (.slice e')=>decide (e'=e)&&decide (P.cellsOf e=sz)
 |_=>false
def UI(P:Program)(t:TypeId)(ts:List TypeId):Bool:=match P.underlying t with
 |some (.struct fs)=>decide (fs.toList.map (·.type)=ts)
 |_=>false
theorem HasTy.str_of(h:ajn P t=ť)(hu:HasTy P t u):∃s,u=.str s/\s.length<=reachBytes:=by
 unfold ajn at h;cases hu with
 |str h2 h3=>exact⟨_,rfl,h3⟩
 |_=>simp_all
theorem HasTy.bool_of(h:aej P t=ť)(hu:HasTy P t u):∃b,u=.bool b:=by
 unfold aej at h;cases hu with
 |bool h2=>exact⟨_,rfl⟩
 |_=>simp_all
theorem HasTy.int_of{k}(h:ajp P t k=ť)(hu:HasTy P t u):∃n,u=.int k n/\k.min<=n/\n<=k.max:=by
 unfold ajp at h;cases hu with
 |int h2 h3 h4=>
   simp_all
 |_=>simp_all
theorem HasTy.seq_of{sz}(h:ajo P t e sz=ť)(hu:HasTy P t u):∃l,u=.seq sz l/\(∀x∈l,HasTy P e x)/\l.length<=reachBytes:=by
 unfold ajo at h;cases hu with
 |seq h2 h3 h4=>
   simp_all
 |_=>simp_all
theorem Qn:∀{fs:List Field}{us:List V},us.length=fs.length->(∀(i:Nat)(f:Field)(u:V),fs[i]?=ś f->us[i]?=ś u->HasTy P f.type u)->rt P (fs.map (·.type)) us
 |[],[],_,_=>trivial
 |f::fs,u::us,hl,h=>⟨h 0 f u rfl rfl,Qn (by simpa using hl) λi f u hf hu=>h (i+1) f u (by simpa using hf) (by simpa using hu)⟩
 |[],_::_,hl,_=>by simp at hl
 |_::_,[],hl,_=>by simp at hl
theorem HasTy.strct_of{ts}(h:UI P t ts=ť)(hu:HasTy P t u):∃us,u=.strct (us.flatMap cl)/\rt P ts us:=by
 unfold UI at h;cases hu with
 |strct h2 h3 h4=>
   rw[h2]at h;simp only[decide_eq_true_eq]at h;subst h;exact⟨_,rfl,Qn (by simpa using h3) λi f u hf hu=>h4 i f u (by simpa using hf) hu⟩
 |_=>simp_all
theorem sK{α:Type}{f:α->V}{Q:α->Prop}:∀{l:List V},(∀x∈l,∃a,x=f a/\Q a)->∃xs:List α,l=xs.map f/\∀a∈xs,Q a
 |[],_=>⟨[],rfl,by simp⟩
 |x::l,h=>by
   obtain⟨a,rfl,ha⟩:=h x (by simp)
   obtain⟨xs,rfl,has⟩:=sK (l:=l) (λy hy=>h y (by simp[hy]))
   exact⟨a::xs,rfl,by simpa using⟨ha,has⟩⟩
theorem rt.one{t us}(h:rt P [t] us):∃a,us=[a]/\HasTy P t a:=by
 match us,h with
 |[a],h=>exact⟨a,rfl,h.1⟩
 |[],h=>exact h.elim
 |_::_::_,h=>exact h.2.elim
theorem rt.two{t t' us}(h:rt P [t,t'] us):∃a b,us=[a,b]/\HasTy P t a/\HasTy P t' b:=by
 match us,h with
 |a::us,h=>
   obtain⟨b,rfl,hb⟩:=rt.one h.2;exact⟨a,b,rfl,h.1,hb⟩
 |[],h=>exact h.elim
theorem rt.three{t t' t2 us}(h:rt P [t,t',t2] us):∃a b c,us=[a,b,c]/\HasTy P t a/\HasTy P t' b/\HasTy P t2 c:=by
 match us,h with
 |a::us,h=>
   obtain⟨b,c,rfl,hb⟩:=rt.two h.2;exact⟨a,b,c,rfl,h.1,hb⟩
 |[],h=>exact h.elim
end
end Go.Abs
namespace Go.Abs.F
open Go.Proofs
theorem vS{u}(h:HasTy ŷ aA u):∃s,u=.str s/\s.length<=reachBytes:=HasTy.str_of (by kernel_rfl) h
theorem Il{u}(h:HasTy ŷ iJ u):∃l:List Str,u=.seq 1 (l.map .str)/\(∀s∈l,s.length<=reachBytes)/\l.length<=reachBytes:=by
 obtain⟨l,rfl,h1,h2⟩:=HasTy.seq_of (e:=aA) (sz:=1) (by kernel_rfl) h
 obtain⟨ats,rfl,h3⟩:=sK (f:=V.str) (Q:=λs=>s.length<=reachBytes) (l:=l) λx hx=>vS (h1 x hx);grind
def Constraint.fits(c:Constraint):Prop:=(∀s∈c.words,s.length<=reachBytes)/\c.words.length<=reachBytes/\c.regex.length<=reachBytes
theorem L9{u}(h:HasTy ŷ fJ u):∃c:Constraint,u=c.v/\c.fits:=by
 obtain⟨us,rfl,h1⟩:=HasTy.strct_of (ts:=[ap,iJ,aA]) (by kernel_rfl) h
 obtain⟨a,b,c,rfl,ha,hb,hc⟩:=h1.three;obtain⟨n,rfl,hn⟩:=HasTy.int_of (k:=.i64) (by kernel_rfl) ha
 obtain⟨l,rfl,hl⟩:=Il hb;obtain⟨r,rfl,hr⟩:=vS hc;exact⟨⟨n,l,r⟩,rfl,hl.1,hl.2,hr⟩
theorem aii{u}(h:HasTy ŷ fU u):∃r:Rule,u=r.v/\r.name.length<=reachBytes/\r.value.fits:=by
 obtain⟨us,rfl,h1⟩:=HasTy.strct_of (ts:=[aA,fJ,aH]) (by kernel_rfl) h
 obtain⟨a,b,c,rfl,ha,hb,hc⟩:=h1.three;obtain⟨n,rfl,hn⟩:=vS ha;obtain⟨k,rfl,hk⟩:=L9 hb;obtain⟨r,rfl⟩:=HasTy.bool_of (by kernel_rfl) hc
 exact⟨⟨n,k,r⟩,rfl,hn,hk⟩
def Allowed.fits(a:Allowed):Prop:=a.name.length<=reachBytes/\(∀s∈a.kids,s.length<=reachBytes)/\a.kids.length<=reachBytes/\(∀r∈a.rules,r.name.length<=reachBytes/\r.value.fits)/\a.rules.length<=reachBytes
theorem Yo{u}(h:HasTy ŷ cR u):∃a:Allowed,u=a.v/\a.fits:=by
 obtain⟨us,rfl,h1⟩:=HasTy.strct_of (ts:=[aA,iJ,sC]) (by kernel_rfl) h
 obtain⟨a,b,c,rfl,ha,hb,hc⟩:=h1.three;obtain⟨n,rfl,hn⟩:=vS ha;obtain⟨k,rfl,hk1,hk2⟩:=Il hb;obtain⟨l,rfl,h2,h3⟩:=HasTy.seq_of (e:=fU) (sz:=5) (by kernel_rfl) hc
 obtain⟨rs,rfl,h4⟩:=sK (f:=Rule.v) (l:=l) λx hx=>aii (h2 x hx);exact⟨⟨n,k,rs⟩,rfl,hn,hk1,hk2,h4,by simpa using h3⟩
def Policy.fits(p:Policy):Prop:=(∀s∈p.top,s.length<=reachBytes)/\p.top.length<=reachBytes/\(∀e∈p.elements,e.fits)/\p.elements.length<=reachBytes/\(∀s∈p.unwrap,s.length<=reachBytes)/\p.unwrap.length<=reachBytes
theorem rH{u}(h:HasTy ŷ aS u):∃p:Policy,u=p.v/\p.fits:=by
 obtain⟨us,rfl,h1⟩:=HasTy.strct_of (ts:=[iJ,mC,iJ]) (by kernel_rfl) h
 obtain⟨a,b,c,rfl,ha,hb,hc⟩:=h1.three;obtain⟨n,rfl,hn1,hn2⟩:=Il ha;obtain⟨k,rfl,hk1,hk2⟩:=Il hc;obtain⟨l,rfl,h2,h3⟩:=HasTy.seq_of (e:=cR) (sz:=3) (by kernel_rfl) hb
 obtain⟨rs,rfl,h4⟩:=sK (f:=Allowed.v) (l:=l) λx hx=>Yo (h2 x hx);exact⟨⟨n,rs,k⟩,rfl,hn1,hn2,h4,by simpa using h3,hk1,hk2⟩
end Go.Abs.F
end
