/- Plain: of policies made good and nodes that are stable, the program's way to tell which nodes are allowed is the reference's. No condition. -/
import Derived.Test.YtedmnakfknbabaaGreatDoorAP4
import Derived.Test.YtedmnakfknbabaaGreatDoorAF17
set_option linter.all false
set_option maxHeartbeats 0
open Bool renaming and_eq_true→zAa,true_and→zAb,or_eq_true→zAf
open List renaming mem_append→zAc,all_eq_true→zAd,mem_cons→zAg,all_cons→zAh
open Prod renaming ext→zAe
section
set_option maxRecDepth 100000
namespace Go.Abs.F
open Go.Proofs
attribute [-simp] getElem?_pos Option.not_isSome List.map_map
theorem kR:∀(l out:List Rule)(i:Nat),(∀r∈out,∃c,r.value=good12 c)->∀r∈ek i out l,∃c,r.value=good12 c
 |[],out,i,h=>by simpa[ek]using h
 |x::l,out,i,h=>by
   simp only[ek];split
   ·exact kR l out _ h
   ·refine kR l _ _ fun r hr=>?_
    rcases zAc.1 hr with hr|hr
    ·exact h r hr
    ·simp at hr;subst hr
     unfold cX;split<;>exact⟨_,rfl⟩
theorem Pz{P:Node->Prop}:∀(l:List Node)(k:Int)(par:Str),ap P l->∀x∈plL k par l,P x.2:=by
 refine aN (fun k par _ x hx=>by simp[plL]at hx) ?_
 intro n l h1 h2 k par ha x hx;simp only[ap,d2]at ha;simp only[plL,vg,zAg,zAc]at hx;rcases hx with rfl|hx|hx
 ·exact ha.1.1
 ·exact h1 _ _ ha.1.2 x hx
 ·exact h2 _ _ ha.2 x hx
def shp(n:Node):Prop:=(n.kind=1->named n.name=true)/\(n.kind≠1->n.kids=[])
theorem Md{s:Str}(h:named s=true):s≠[]:=by rintro rfl;simp[named]at h
theorem PI{n:Node}{b:Bool}(h:qC n b=0):shp n:=by
 unfold qC m8 at h;refine⟨fun hk=>?_,fun hk=>?_⟩
 ·rw[if_pos hk]at h
  split at h
  ·split at h
   ·assumption
   ·simp at h
  ·simp at h
 ·rw[if_neg hk]at h
  split at h
  ·split at h
   ·rename_i h3;exact h3.2.2
   ·simp at h
  ·simp at h
theorem PW:∀(l:List Node)(txt:Bool),sc txt l=0->ap shp l:=by
 refine aN (fun _ _=>by simp[ap]) ?_
 intro n l h1 h2 txt h;simp only[sc,Bn]at h;split at h
 ·rename_i ho
  split at h
  ·rename_i hk
   simp only[ap,d2];exact⟨⟨PI ho,h1 _ hk⟩,h2 _ h⟩
  ·exact absurd h (by assumption)
 ·exact absurd h (by assumption)
def gJ(els:List Allowed)(l:List Str):Prop:=∀s∈l,s=eD\/s=bD\/(aU els s).isSome=true
def eo(p:Policy):Prop:=gJ p.elements p.top/\∀e∈p.elements,gJ p.elements e.kids
theorem k9{l:List Allowed}{s:Str}:(aU l s).isSome=true↔s∈l.map Allowed.name:=by
 induction l with
 |nil=>simp[aU]
 |cons e l ih=>
   simp only[aU,List.map_cons,zAg];by_cases h:e.name=s
   ·simp[h]
   ·rw[if_neg h,ih]
    constructor
    ·exact .inr
    ·rintro(h'|h')
     ·exact absurd h'.symm h
     ·exact h'
theorem qM{a b:List Allowed}(h:a.map Allowed.name=b.map Allowed.name){l:List Str}(hl:gJ a l):gJ b l:=fun s hs=>by
 rcases hl s hs with h1|h1|h1
 ·exact .inl h1
 ·exact .inr (.inl h1)
 ·exact .inr (.inr (by rw[k9,<-h,<-k9];exact h1))
theorem wx(p:Policy)(par:Str):∀(l out:List Str),gJ p.elements out->gJ p.elements (oP p par out l)
 |[],out,h=>by simpa[oP]using h
 |x::l,out,h=>by
   simp only[oP];refine wx p par l _ ?_;split
   ·rename_i hk
    intro s hs;simp only[kids,zAa,zAd]at hk;have:=hk.1 s hs;simp only[oH,zAa,zAf,decide_eq_true_eq]at this;rcases this.2 with(h1|h1)|h1
    ·exact .inl h1
    ·exact .inr (.inl h1)
    ·exact .inr (.inr h1.1)
   ·exact h
theorem xg(els:List Allowed)(k:Nat)(own:List Str):(dt els k own).map Allowed.name=els.map Allowed.name:=by
 unfold dt;split
 ·rename_i e he
  rw[List.map_set];refine List.ext_getElem? fun i=>?_;rw[List.getElem?_set];split
  ·subst_vars
   have:=(List.getElem?_eq_some_iff.1 he).1;simp[he,this]
  ·rfl
 ·rfl
theorem xh{els:List Allowed}(k:Nat)(own:List Str)(h:∀e∈els,gJ els e.kids):∀e∈dt els k own,gJ (dt els k own) e.kids:=by
 intro e he;refine qM (xg els k own).symm ?_;unfold dt at he;split at he
 ·rename_i x hx
  rcases List.mem_or_eq_of_mem_set he with he|he
  ·exact h e he
  ·subst he
   exact wx ⟨[],els,[]⟩ _ _ _ (fun s hs=>by cases hs)
 ·exact h e he
theorem qN:∀(l els:List Allowed)(k:Nat),(∀e∈els,gJ els e.kids)->∀e∈dp k els l,gJ (dp k els l) e.kids
 |[],els,k,h=>by simpa[dp]using h
 |x::l,els,k,h=>by
   simp only[dp];exact qN l _ _ (xh k x.kids h)
theorem lg:∀(l out:List Allowed)(i:Nat),(∀e∈out,e.kids=[])->∀e∈gz i out l,e.kids=[]
 |[],out,i,h=>by simpa[gz]using h
 |x::l,out,i,h=>by
   simp only[gz];split
   ·exact lg l out _ h
   ·refine lg l _ _ fun e he=>?_
    rcases zAc.1 he with he|he
    ·exact h e he
    ·simp at he;subst he;rfl
theorem k8(p:Policy):eo (bo p):=by
 unfold bo;refine⟨?_,?_⟩
 ·exact wx ⟨[],_,[]⟩ [] _ _ (fun s hs=>by cases hs)
 ·refine qN _ _ _ fun e he s hs=>?_
  rw[lg _ [] 0 (by simp) e he]at hs
  cases hs
theorem s8{s:Str}(h:named s=true):s≠eD/\s≠bD:=by
 constructor<;>rintro rfl<;>exact absurd h (by decide)
theorem JA{els:List Allowed}{l:List Str}{s:Str}(hl:gJ els l)(hs:named s=true)(h:hasS l s=true):(aU els s).isSome=true:=by
 rcases hl s (kn.1 h)with h1|h1|h1
 ·exact absurd h1 (s8 hs).1
 ·exact absurd h1 (s8 hs).2
 ·exact h1
theorem Ga{p:Policy}(hp:eo p){n:Node}(hn:shp n)(par:Str):qO p par n=nT p par n:=by
 have key:∀l:List Str,gJ p.elements l->n.kind=1->((aU p.elements n.name).isSome&&hasS l n.name)=hasS l n.name:=fun l hl hk=>by
  cases h:hasS l n.name
  ·simp
  ·simp[JA hl (hn.1 hk) h]
 unfold qO nT DS;by_cases h0:par=[]
 ·simp only[h0,if_true]
  by_cases hk:n.kind=1
  ·simp[hk,key _ hp.1 hk]
  ·simp[hk]
 ·simp only[h0,if_false]
  cases hf:aU p.elements par with
  |none=>simp[Allowed.zero,hasS]
  |some e=>
    simp only[Option.getD_some];by_cases hk:n.kind=1
    ·simp[hk,key _ (hp.2 e (nW hf).1) hk]
    ·simp[hk]
def plOK(k:Int)(par:Str):Prop:=(k=0/\par=[])\/(k=1/\par≠[])
theorem SG{A:Constraint->Str->Bool}{H:Allowed->List Attr->Bool}(hH:∀e l,H e l=jA A e l){p:Policy}(hp:eo p){n:Node}(hn:shp n){k:Int}{par:Str}(hk:plOK k par):
 okQ H p ((k,par),n)=mF A p par n:=by
 have hk':(k=0/\par=[])\/(k=1/\par≠[]):=hk;simp only[okQ,mF,nB];rw[if_pos hk',Ga hp hn,hH]
theorem vk(A:Constraint->Str->Bool)(p:Policy):∀(l:List Node)(par:Str)(m:Nat),dn A p par l m=(if(dn A p par l 0).1<0 then -1 else(m:Int)+(dn A p par l 0).1,m+(dn A p par l 0).2):=by
 refine aN (fun par m=>by simp[dn]) ?_
 intro n l h1 h2 par m;have hb:=qE A p n.kids n.name 0;simp only[dn,uB];split
 ·split
  ·rw[if_neg (by simp only;omega)]
   refine zAe ?_ ?_<;>simp only<;>omega
  ·rw[h2 par (m+1+_),h2 par (0+1+_)]
   have hb2:=qE A p l par 0;generalize dn A p par l 0=q at *;generalize(dn A p n.name n.kids 0).2=c at *;simp only;by_cases hq:q.1<0
   ·simp only[hq,if_true]
    rw[if_pos (by omega)]
    refine zAe rfl ?_;simp only;omega
   ·simp only[hq,if_false]
    rw[if_neg (by omega)]
    refine zAe ?_ ?_<;>simp only<;>omega
 ·rw[if_neg (by simp only;omega)]
  refine zAe ?_ ?_<;>simp only<;>omega
theorem L6{A:Constraint->Str->Bool}{H:Allowed->List Attr->Bool}(hH:∀e l,H e l=jA A e l){p:Policy}(hp:eo p):∀(l:List Node),ap shp l->∀(k:Int)(par:Str)(i:Nat)(rest:List Pl),plOK k par->
 r7 (okQ H p) i (plL k par l++rest)=if 0<=(dn A p par l i).1 then(dn A p par l i).1 else r7 (okQ H p) (dn A p par l i).2 rest:=by
 refine aN (fun _ k par i rest _=>by simp[plL,dn]) ?_
 intro n l h1 h2 ha k par i rest hk;simp only[ap,d2]at ha;simp only[plL,vg,List.cons_append,List.append_assoc,r7,dn,uB];rw[SG hH hp ha.1.1 hk];split
 ·have hkids:∀(rest:List Pl)(j:Nat),r7 (okQ H p) j (plL n.kind n.name n.kids++rest)=if 0<=(dn A p n.name n.kids j).1 then(dn A p n.name n.kids j).1 else r7 (okQ H p) (dn A p n.name n.kids j).2 rest:=by
   intro rest j;by_cases hk1:n.kind=1
   ·exact h1 ha.1.2 _ _ _ _ (.inr ⟨hk1,Md (ha.1.1.1 hk1)⟩)
   ·rw[ha.1.1.2 hk1];simp[plL,dn]
  rw[hkids,vk A p n.kids n.name (i+1)];have hb:=qE A p n.kids n.name 0;generalize dn A p n.name n.kids 0=q at *;by_cases hq:0<=q.1
  ·have hq2:¬q.1<0:=by omega
   simp only[hq,hq2,if_true,if_false];rw[if_pos (by omega),if_pos (by omega)]
   omega
  ·have hq2:q.1<0:=by omega
   simp only[hq,hq2,if_true,if_false];rw[if_neg (by omega)]
   exact h2 ha.2 k par _ rest hk
 ·rw[if_pos (by simp only;omega)]
theorem PM{A:Constraint->Str->Bool}{H:Allowed->List Attr->Bool}(hH:∀e l,H e l=jA A e l){p:Policy}(hp:eo p){l:List Node}(hl:ap shp l):xn H p l=L7 A p l:=by
 have:=L6 hH hp l hl 0 [] 0 [] (.inl ⟨rfl,rfl⟩);rw[List.append_nil]at this;have hb:=qE A p l [] 0;rw[xn,this,L7];split
 ·rfl
 ·simp only[r7];omega
theorem Pv{par:Str}(hr:raw par=true):∀(l:List Node)(txt:Bool),sc txt l=0->l.all (fk par)=true->l.length<=1
 |[],_,_,_=>by simp
 |[n],_,_,_=>by simp
 |n::m::l,txt,h,hf=>by
   have hv:AL par=false:=by
    simp only[raw,zAf,decide_eq_true_eq]at hr;rcases hr with rfl|rfl<;>decide
   simp only[zAh,fk,hv,hr,Bool.false_eq_true,if_false,if_true,zAa,decide_eq_true_eq]at hf;simp only[sc]at h;split at h
   ·split at h
    ·split at h
     ·rename_i h3
      simp only[qC]at h3;rw[hf.1.1]at h3;have h2:m.kind=2:=hf.2.1.1;rw[if_neg (by omega),if_pos (.inl h2)]at h3
      split at h3
      ·split at h3
       ·rename_i h4
        have:=(h4.2 h2).2;simp at this
       ·simp at h3
      ·simp at h3
     ·exact absurd h (by assumption)
    ·exact absurd h (by assumption)
   ·exact absurd h (by assumption)
theorem MX(n:Node):fk [] n=true:=by
 have h1:AL []=false:=by decide
 have h2:raw []=false:=by decide
 simp[fk,h1,h2,jT,bh,hasS]
def tu(n:Node):Bool:=!(decide (n.kind=3)&&je kF n.text)
theorem C3(par:Str)(n:Node):sV par n=(fk par n&&tu n):=by
 simp only[sV,tu,Bool.not_and]
theorem Pd:∀(l:List Node)(txt:Bool),sc txt l=0->(l.all tu&&rU l)=G7 l:=by
 refine aN (fun _ _=>by simp[rU,G7]) ?_
 intro n l h1 h2 txt h;simp only[sc,Bn]at h;split at h
 ·split at h
  ·rename_i hk
   have e1:=h1 false hk;have e2:=h2 _ h;simp only[rU,AR,G7,QB,zAh,qv];rw[<-e1,<-e2]
   have e3:n.kids.all (sV n.name)=(n.kids.all (fk n.name)&&n.kids.all tu):=by
    rw[Bool.eq_iff_iff];simp only[zAd,zAa,C3];exact⟨fun h=>⟨fun x hx=>(h x hx).1,fun x hx=>(h x hx).2⟩,fun h x hx=>⟨h.1 x hx,h.2 x hx⟩⟩
   have e4:(!(raw n.name&&decide (1<n.kids.length))&&n.kids.all (fk n.name))=n.kids.all (fk n.name):=by
    cases hr:raw n.name
    ·simp
    ·cases hf:n.kids.all (fk n.name)
     ·simp
     ·have:=Pv hr n.kids false hk hf
      simp;omega
   rw[e3,<-Bool.and_assoc (!(raw n.name&&decide (1<n.kids.length))),e4,show tu n=!(decide (n.kind=3)&&je kF n.text)from rfl]
   generalize(!(decide (n.kind=3)&&je kF n.text))=c1;generalize n.kids.all (fk n.name)=c2;generalize n.kids.all tu=c3;generalize rU n.kids=c4;generalize l.all tu=c5;generalize rU l=c6;cases c1<;>cases c2<;>cases c3<;>cases c4<;>cases c5<;>cases c6<;>rfl
  ·exact absurd h (by assumption)
 ·exact absurd h (by assumption)
theorem Fu(l:List Node):nC l=uW l:=by
 unfold nC uW;by_cases hm:may l=0
 ·have e:=Pd l false hm
  have e3:l.all (sV [])=l.all tu:=by
   congr 1;funext n;rw[C3,MX,zAb]
  have h2:raw []=false:=by decide
  simp only[hm,decide_true,zAb,ny,qv,e3,h2,Bool.false_and,Bool.not_false];exact e
 ·simp[hm]
theorem zP{A:Constraint->Str->Bool}{H:Allowed->List Attr->Bool}(hH:∀e l,H e l=jA A e l){p:Policy}(hp:eo p)(l:List Node):pH H p l=ik A p l:=by
 unfold pH ik;rw[Fu];cases hs:uW l
 ·rfl
 ·have hm:may l=0:=by
   simp only[uW,zAa,decide_eq_true_eq]at hs;exact hs.1
  rw[PM hH hp (PW l false hm)]
def okN(A:Constraint->Str->Bool)(p:Policy)(par:Str)(l:List Node):Bool:=decide ((dn A p par l 0).1<0)
theorem zO(A:Constraint->Str->Bool)(p:Policy)(l:List Node)(par:Str)(many many':Nat)(h:(dn A p par l many).1<0):(dn A p par l many').1<0:=by
 rw[vk]at h⊢;simp only at h⊢;split at h
 ·rw[if_pos (by assumption)];omega
 ·omega
theorem L3(A:Constraint->Str->Bool)(p:Policy)(par:Str)(n:Node)(l:List Node):okN A p par (n::l)=(mF A p par n&&(okN A p n.name n.kids&&okN A p par l)):=by
 have hb:=(qE A p n.kids n.name 0).2.2.1;simp only[okN,dn,uB];cases hn:mF A p par n
 ·simp
 ·simp only[if_true,zAb]
  by_cases hk:0<=(dn A p n.name n.kids 0).1
  ·rw[if_pos hk]
   have h1:¬(dn A p n.name n.kids 0).1<0:=by omega
   simp[h1];omega
  ·rw[if_neg hk]
   have h1:(dn A p n.name n.kids 0).1<0:=by omega
   simp only[h1,decide_true,zAb];exact decide_eq_decide.2 ⟨zO A p l par _ _,zO A p l par _ _⟩
end Go.Abs.F
end
