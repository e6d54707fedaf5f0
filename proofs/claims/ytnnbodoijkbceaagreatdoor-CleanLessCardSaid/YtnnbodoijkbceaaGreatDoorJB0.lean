/- A text that grows (strings. No condition. -/
import Derived.Test.YtnnbodoijkbceaaGreatDoorJCodeP
import Derived.Shelf.Strings.Builder1
import Derived.Test.YtnnbodoijkbceaaGreatDoorJU1
import Derived.Test.YtnnbodoijkbceaaGreatDoorJP2
set_option linter.all false
set_option maxHeartbeats 0
set_option maxRecDepth 100000
open List renaming reduceReplicate→zAa,getElem?_eq_some_iff→zAb,getElem?_set_ne→zAc,getElem?_append_left→zAd,getElem?_set_self→zAe,mem_of_getElem?→zAf,getElem?_concat_length→zAg,filter_cons→zAh,map_cons→zAj,getElem?_append_right→zBb,getElem?_map→zBc,length_singleton→zBd,length_filter_le→zBe,length_append→zBf,append_nil→zBi,length_map→zBj,mem_cons→zCa,map_nil→zCb
open Nat renaming le_refl→zAi,zero_le→zBa,add_sub_cancel→zBg
open Bool renaming false_eq_true→zBh
open Option.some renaming injEq→zCc
section
namespace Go.Abs.F
open Go.Proofs Go.RowKit
abbrev aO:Nat:=126
def H7:Go.Shelf.Ren:=⟨fun x=>match x with|240=>126|276=>149|n=>n,fun x=>match x with|72=>117|70=>115|164=>187|37=>33|n=>n,fun n=>n⟩
theorem D7:Lays.n240 Tryz.prog H7 where
 mixed:=by kernel_rfl
 f240:=Tryz.func126.trans (congrArg some (by kernel_rfl))
 f276:=Tryz.func149.trans (congrArg some (by kernel_rfl))
 t0:=Tryz.underlying0
 a0:=Tryz.isAgg0
 z0:=Tryz.sizeOf0
 v0:=Tryz.zeroValue0
 t4:=Tryz.underlying4
 a4:=Tryz.isAgg4
 z4:=Tryz.sizeOf4
 v4:=Tryz.zeroValue4
 t9:=Tryz.underlying9
 a9:=Tryz.isAgg9
 z9:=Tryz.sizeOf9
 v9:=Tryz.zeroValue9
 t20:=Tryz.underlying20
 a20:=Tryz.isAgg20
 z20:=Tryz.sizeOf20
 v20:=Tryz.zeroValue20
 t70:=Tryz.underlying115
 a70:=Tryz.isAgg115
 z70:=Tryz.sizeOf115
 v70:=Tryz.zeroValue115
 t72:=Tryz.underlying117
 a72:=Tryz.isAgg117
 z72:=Tryz.sizeOf117
 v72:=Tryz.zeroValue117
 t164:=Tryz.underlying187
 a164:=Tryz.isAgg187
 z164:=Tryz.sizeOf187
 v164:=Tryz.zeroValue187
theorem Hh:Builder.X72 Tryz.prog H7 where
 sizeBuilder:=by kernel_rfl
 liesBuilder:=by kernel_rfl
theorem HM{w:World}{g:Nat}{arr:Array Value}{T:TypeId}{fz:Nat×Nat}(h:w.heap[g]?=some (.cells arr T fz))(o:Nat)(v:Value):w.setCell ⟨g,o,none⟩ v=w.setRow g (arr.setIfInBounds o v):=by
 unfold World.setCell World.setRow;congr 1;apply Array.ext_getElem?;intro k;simp only[Array.getElem?_modify];by_cases hk:g=k
 ·subst hk
  simp[h]
 ·simp[hk]
theorem pH{ms:List Po}{j:Nat}{x y:V}(hj:ms[j]?=some (.bx 117 [x,y]))(hx:x=.nilptr\/x=.q 0 j 0 0 0):
 FnH Tryz.prog aO [] [.q 0 j 0 0 0] [some (.pool ms)] (.tup []) [some (.pool (ms.set j (.bx 117 [.q 0 j 0 0 0,y])))]:=by
 intro M w κ cs J hJC hH hus o a Nx Q hN;have hcall:∀args w,(callFunc aO args).run Tryz.prog w=.ok (.enter aO args) w:=fun args w=>enters_of (f:=aO) D7.f240 (by kernel_rfl) rfl args w
 rw[hcall,Oper.upon_enter];obtain⟨cl⟩:=cs;simp only[ae]at hus;obtain⟨c,cs',rfl,hc,rfl⟩:=hus;have hp:([some (.pool ms)]:List (Option Ob))[0]?=some (some (.pool ms)):=rfl
 have H0:Rel 0 M (cg κ [some (.pool ms)] w [] ⟨[c]⟩ J) w κ M ⟨[],[some (.pool ms)]⟩ { tmps:=#[],defers:=[] } w:=
  { dfr:=rfl
    jst:=hH.jst
    pin:=fun i hi=>by cases hi
    size:=by simp
    regs:=fun t v ht=>by simp[lk]at ht
    heap:=hH.heap
    inj:=hH.inj
    snd:=hH.snd
    sep:=hH.sep
    sub:=⟨fun _ _ h=>h,hH.fmS,fun _ _ _=>zBa _,zBa _,hH.gl⟩
    new:=fun _ _ h=>.inl h
    base:=rfl
    blw:=Und.refl _ _ }
 simp only[rep,XX]at hc;have hq:=hc.2.2 ms hp;simp only[qAt,hj]at hq;obtain⟨b,hb1,hb2⟩:=hq trivial;subst hb2;obtain⟨_,hpo,hdis,hown,hbl,_⟩:=H0.heap 0 _ hp;obtain⟨b',arr,T,h1,h3,h4,h5,hT⟩:=hpo j _ hj;rw[hb1]at h1;simp only[Value.pointer.injEq,zCc,Addr.mk.injEq,and_true]at h1;subst h1;have hT:T=117:=hT.resolve_left (by decide)
 subst hT;simp only[ae]at h4;obtain⟨cx,l1,e1,hcx,cy,l2,e2,hcy,e3⟩:=h4;subst e3;subst e2;have harr:arr=#[cx,cy]:=by apply Array.ext';simpa using e1
 subst harr;have hsh:w.shape? b=some (117,2):=by simp[World.shape?,h3]
 have hc0:w.cell? ⟨b,0,none⟩=some cx:=by simp[World.cell?,h3]
 have hfz:w.frozen? ⟨b,0,none⟩=false:=by simp[World.frozen?,h3]
 have hlt:j<ms.length:=(zAb.1 hj).1;have hself:∀(w':World)(κ':Kap)(M':Mem),True:=fun _ _ _=>trivial;have hset:ms.set j (.bx 117 [.q 0 j 0 0 0,y])=ms.set j (.bx 117 [.q 0 j 0 0 0,y]):=rfl
 have hpt:rep M (PX (XX κ [some (.pool ms)])) (.q 0 j 0 0 0) (.pointer (some ⟨b,0,none⟩)):=by
  have h9:=kG (M:=M) (κ:=κ) hp (k:=0) (j:=j) (n:=0) (i:=0) (off:=0) (c:=.pointer (some ⟨b,0,none⟩)) rfl (by
   simp only[qAt,hj];exact fun _=>⟨b,hb1,rfl⟩)
  simpa only[rep,PX]using h9
 rcases hx with rfl|rfl
 ·simp only[rep]at hcx
  subst hcx;refine(Any.Builder_copyCheck_fresh D7 Hh b w hc0 hsh hfz).mono ?_;rintro e' w' ⟨rfl,rfl⟩;have hw:=HM h3 0 (.pointer (some ⟨b,0,none⟩));rw[hw];have hbb:κ.bl 0 b:=(hbl b).2 ⟨j,_,hj,rfl,by rw[hb1];rfl⟩
  have hget:(ms.set j (.bx 117 [.q 0 j 0 0 0,y]))[j]?=some (.bx 117 [.q 0 j 0 0 0,y]):=by simp[hlt]
  obtain⟨κ',e1,H',hX⟩:=H0.setMem (m':=.bx 117 [.q 0 j 0 0 0,y]) hp hj rfl (kv:=κ.row 0 j) (b5 (cs:=#[.pointer (some ⟨b,0,none⟩),cy]) (hown b hbb) fun cur T z hc=>by rw[h3]at hc;cases hc;rfl) (fun k _ hne=>setRow_other w b k _ (fun e=>hne (by rw[hb1,e];rfl))) (fun g hg=>.inl hg) (fun κ' er k n i off c hq=>by
   simp only[qAt,hj]at hq;simp only[qAt,hget,er];exact hq) (fun κ' X er hX=>by
   simp only[fc];refine⟨b,_,117,by rw[er,hb1],setRow_heap w b _ _ 117 (0,0) h3,?_,fun u hu=>?_,.inr rfl⟩
   ·refine aD (X:=PX (XX κ [some (.pool ms)])) (fun _ _ h=>h) hX _ _ ?_
    simp only[ae];exact⟨_,_,rfl,hpt,_,_,rfl,hcy,rfl⟩
   ·simp at hu
    rcases hu with rfl|rfl
    ·rfl
    ·exact h5 _ (by simp))
  refine hN (.tuple #[]) M _ κ' (by simp[rep,ae]) H'.blw ⟨H'.heap,H'.inj,H'.snd,H'.sep,H'.sub.fmS,H'.sub.gl,H'.jst⟩ (fun _ _ h=>h) (fun _ _ h=>.inl h) (fun i hi=>by cases hi)
 ·have hq2:=hcx
  have hms:ms.set j (.bx 117 [.q 0 j 0 0 0,y])=ms:=by
   apply List.ext_getElem?;intro k;rw[List.getElem?_set];split
   ·rename_i e
    subst e;exact hj.symm
   ·rfl
  rw[hms]at hN
  have hcx':cx=.pointer (some ⟨b,0,none⟩):=by
   simp only[rep,PX,XX]at hcx;have hq:=hcx.2.2 ms hp;simp only[qAt,hj]at hq;obtain⟨b2,k1,k2⟩:=hq trivial;rw[hb1]at k1;cases k1;exact k2
  subst hcx';refine(Any.Builder_copyCheck_used D7 Hh b w hc0).mono ?_;rintro e' w' ⟨rfl,rfl⟩;exact hN (.tuple #[]) M w' κ (by simp[rep,ae]) (Und.refl _ _) hH (fun _ _ h=>h) (fun _ _ h=>.inl h) (fun i hi=>by cases hi)
end Go.Abs.F
end
section
namespace Go.Abs.F
open Go.Proofs Go.RowKit
attribute [-simp] getElem?_pos Option.not_isSome List.map_map
structure BAt (ms:List Po) (j b:Nat) (x:V) (s:Str):Prop where
 va:ms[j]?=some (.bx 117 [x,.q 1 b s.length 0 0])
 by':ms[b]?=some (.byt 5 s)
 ne:b≠j
 own:x=.nilptr\/x=.q 0 j 0 0 0
def wsQ(ms:List Po)(j b:Nat)(s t:Str):List Po:=((ms.set j (.bx 117 [.q 0 j 0 0 0,.q 1 b s.length 0 0])).set b (.byt 5 (s++t))).set j (.bx 117 [.q 0 j 0 0 0,.q 1 b (s.length+t.length) 0 0])
theorem BAt.write{ms:List Po}{j b:Nat}{x:V}{s:Str}(h:BAt ms j b x s)(t:Str):BAt (wsQ ms j b s t) j b (.q 0 j 0 0 0) (s++t) where
 va:=by
  have:=(zAb.1 h.va).1;rw[wsQ,zAe (by simp;omega)];simp
 by':=by
  have:=(zAb.1 h.by').1;rw[wsQ,zAc (Ne.symm h.ne),zAe (by simp;omega)]
 ne:=h.ne
 own:=.inr rfl
theorem qh{ms:List Po}{j b:Nat}{s t:Str}{i:Nat}(h1:i≠j)(h2:i≠b):(wsQ ms j b s t)[i]?=ms[i]?:=by
 rw[wsQ,zAc (Ne.symm h1),zAc (Ne.symm h2),zAc (Ne.symm h1)]
theorem pI{ms:List Po}{j b:Nat}{x:V}{s:Str}(h:BAt ms j b x s)(t:Str)(hl:s.length+t.length<=140737488355328):
 FnH Tryz.prog dc [] [.q 0 j 0 0 0,.str t] [some (.pool ms)] (.tup [.int .i64 t.length,.niliface]) [some (.pool (wsQ ms j b s t))]:=by
 have hck:=pH h.va h.own;obtain⟨h1,h2,h3,h4⟩:=h;have hj:=(zAb.1 h1).1;have g1:∀y,(ms.set j y)[j]?=some y:=fun y=>zAe hj;have g2:∀y,(ms.set j y)[b]?=some (.byt 5 s):=fun y=>by rw[zAc (Ne.symm h3)];exact h2
 have g3:∀y z,((ms.set j y).set b z)[j]?=some y:=fun y z=>by rw[zAc h3];exact g1 y
 refine yoH dd ?_;simp(disch:=omega) [-zAa];refine ar [] 1 [0] (by simp) (by simp) (by simp) (by simp) hck (by simp) fun _ _=>?_
 simp(disch:=omega) [-zAa,g1,g2,g3,wsQ]
theorem Pg{ms:List Po}{j b:Nat}{x:V}{s:Str}(h:BAt ms j b x s):FnH Tryz.prog eG [] [.q 0 j 0 0 0] [some (.pool ms)] (.str s) [some (.pool (if s=[]then ms else ms.set b .no))]:=by
 obtain⟨h1,h2,h3,h4⟩:=h;refine yoH eH ?_;by_cases hs:s=[]
 ·subst hs
  simp(disch:=omega) [-zAa,h1,h2]
 ·simp(disch:=omega) [-zAa,h1,h2,hs]
theorem D9{α:Type}(l:List α)(x:α):(l++[x])[(l++[x]).length-1]?=some x:=by
 rw[zBf,zBd,zBg,zAg]
theorem Q0{α:Type}(l:List α)(x y:α):(l++[x]).set ((l++[x]).length-1) y=l++[y]:=by
 rw[zBf,zBd,zBg];simp
def Ka(out l:List Node):Prop:=∀o n,out[out.length-1]?=some o->l[0]?=some n->¬(n.kind=2/\o.kind=2)
theorem rk{out l:List Node}{n:Node}(h:Ka out (n::l))(hn:¬(n.kind=2/\n.text=[])):av out (n::l)=av (out++[n]) l:=by
 simp only[av,if_neg hn];split
 ·rename_i o ho
  rw[if_neg (fun e=>h o n ho rfl e)]
 ·rfl
theorem BU{out l:List Node}{n m:Node}{s:Str}(hk:n.kind=2)(hm:m.kind=2):av (out++[⟨n.kind,n.name,n.attrs,s,n.kids⟩]) (m::l)=av (out++[⟨n.kind,n.name,n.attrs,s++m.text,n.kids⟩]) l:=by
 simp only[av];by_cases ht:m.text=[]
 ·rw[if_pos ⟨hm,ht⟩,ht,zBi]
 ·rw[if_neg (fun h=>ht h.2)]
  simp only[D9,Q0];rw[if_pos ⟨hm,hk⟩]
theorem Du{l:List Node}{k:Nat}{m:Node}(h:l[k]?=some m):m.text.length+bZ (l.drop (k+1))=bZ (l.drop k):=by
 rw[eE h];simp[bZ]
theorem Mk{l:List Node}{n:Node}(h:n∈l):j6 n<=aj l:=by
 induction l with
 |nil=>cases h
 |cons x l ih=>
   simp only[aj];rcases zCa.1 h with rfl|h
   ·omega
   ·have:=ih h;omega
theorem JO(m0:List Po)(l:List Node)(hf:an gg l)(hc:aj l<=1000000)(ht:bZ l<=1000000000):
 FnX Tryz.prog Iz [] [.ref 1 l.length] [some (.pool m0),some (.arr aG 5 (l.map Node.v))] (fun r H'=>∃ms',H'=[some (.pool ms')]/\r=.q 1 m0.length (bc l).length 0 0/\(∀(j:Nat)(p:Po),m0[j]?=some p->ms'[j]?=some p)/\ms'[m0.length]?=some (.rw aG 5 ((bc l).map Node.v))):=by
 refine FnX.of_image mixed I3.1 I3.2 rfl fun ho hh=>?_;clear ho hh;have hll:=dS l;simp(disch:=omega) [-zAa]
 refine au (fun(q:Nat×List Po×List Node)=>⟨[(0,.seq 5 (l.map Node.v)),(3,.q 1 m0.length q.2.2.length 0 0),(4,.int .i64 q.1)],[some (.pool q.2.1)]⟩)
  (fun q=>q.1<=l.length/\(∀(j:Nat)(p:Po),m0[j]?=some p->q.2.1[j]?=some p)/\q.2.1[m0.length]?=some (.rw 41 5 (q.2.2.map Node.v))/\Ka q.2.2 (l.drop q.1)/\q.2.2.length<=q.1/\av q.2.2 (l.drop q.1)=bc l) (fun q=>l.length-q.1) [.z 0,.q 3 41 5] ⟨[(3,.q 1 m0.length 0 0 0),(0,.seq 5 (l.map Node.v)),(0,.ref 1 l.length),(3,.nil 5),(4,.int .i64 0)],[some (.pool (m0++[.rw 41 5 []])),none]⟩ (0,m0++[.rw 41 5 []],[]) (by simp) (by simp)
  ⟨zBa _,fun j p hj=>by rw[zAd (zAb.1 hj).1];exact hj,zAg ..,fun o n h=>by simp at h,zAi _,rfl⟩ ?_
 rintro⟨k,ms,out⟩ ⟨hk,hold,hrow,hap,hol,hmg⟩ N hN;simp only at hk hold hrow hap hol hmg;have hjr:=(zAb.1 hrow).1;rcases place l k hk with⟨hke,hd⟩|⟨hlt,n,hn,hd⟩
 ·rw[hd]at hmg
  simp only[av]at hmg;subst hmg;simp(disch:=omega) [-zAa,hke];exact⟨_,_,⟨ms,rfl,rfl,hold,hrow⟩,by simp⟩
 ·have hdm:l.drop k=n::l.drop (k+1):=eE hn
  rw[hdm]at hmg hap;have hnf:=aP.1 hf n (zAf hn);have hcl:=JP [n] (aH.2 ⟨hnf,trivial⟩) (by have:=Mk (zAf hn);simp only[aj];omega)
  have hds:((l.map Node.v).drop k).take 1=[n.v]:=by
   rw[<-List.map_drop,hdm];simp
  by_cases hk2:n.kind=2
  ·by_cases hte:n.text=[]
   ·simp(disch:=omega) [-zAa,hn,hk2,hte]
    refine hN.out _<|Nx.mk (k+1,ms,out) (by simp) ⟨by simp only;omega,hold,hrow,?_,by simp only;omega,?_⟩ (by simp only;omega)
    ·exact fun o n' ho hn' e=>hap o n ho rfl ⟨hk2,e.2⟩
    ·rw[<-hmg];simp[av,hk2,hte]
   ·simp(disch:=omega) [-zAa,hn,hk2,hte,hds]
    refine ay (by simpa[hk2]using hcl) (by simp) fun _=>?_
    rw[rk hap (fun e=>hte e.2)]at hmg;have hb0:BAt (ms++[.byt 5 [],.bx 117 [.nilptr,.q 1 ms.length 0 0 0]]) (ms.length+1) ms.length .nilptr []:=⟨by simp[zBb],by simp[zBb],by omega,.inl rfl⟩
    have htd:=Du hn
    have htl:bZ (l.drop k)<=bZ l:=by
     conv=>rhs;rw[<-List.take_append_drop k l,ww]
     omega
    have hws:=pI hb0 n.text (by simp;omega)
    have hb1:=hb0.write n.text
    have hold1:∀(j:Nat)(p:Po),m0[j]?=some p->(wsQ (ms++[.byt 5 [],.bx 117 [.nilptr,.q 1 ms.length 0 0 0]]) (ms.length+1) ms.length [] n.text)[j]?=some p:=fun j p hj=>by
     have:=hold j p hj;have hlt:=(zAb.1 this).1;rw[qh (by omega) (by omega),zAd hlt];exact this
    have hrow1:(wsQ (ms++[.byt 5 [],.bx 117 [.nilptr,.q 1 ms.length 0 0 0]]) (ms.length+1) ms.length [] n.text)[m0.length]?=some (.rw 41 5 (out.map Node.v)):=by
     rw[qh (by omega) (by omega),zAd hjr];exact hrow
    generalize wsQ (ms++[.byt 5 [],.bx 117 [.nilptr,.q 1 ms.length 0 0 0]]) (ms.length+1) ms.length [] n.text=ms1 at *;simp(disch:=omega) [-zAa,hk2];refine ar [] 1 [0] (by simp) (by simp) (by simp) (by simp) hws (by simp) fun _ _=>?_
    simp(disch:=omega) [-zAa]
    refine au (fun(q:Nat×List Po×Str)=>⟨[(0,.seq 5 (l.map Node.v)),(3,.q 1 m0.length out.length 0 0),(4,.int .i64 q.1),(5,.ptr 1 0),(6,.q 0 (ms.length+1) 0 0 0)],[some (.pool q.2.1),some (.box [.int .i64 2,.str n.name,.seq 2 (n.attrs.map Attr.v),.str n.text,.seq 5 (n.kids.map Node.v)])]⟩)
     (fun q=>k+1<=q.1/\q.1<=l.length/\BAt q.2.1 (ms.length+1) ms.length (.q 0 (ms.length+1) 0 0 0) q.2.2/\(∀(j:Nat)(p:Po),m0[j]?=some p->q.2.1[j]?=some p)/\q.2.1[m0.length]?=some (.rw 41 5 (out.map Node.v))/\q.2.2≠[]/\q.2.2.length+bZ (l.drop q.1)<=bZ l/\av (out++[⟨n.kind,n.name,n.attrs,q.2.2,n.kids⟩]) (l.drop q.1)=bc l)
     (fun q=>l.length-q.1) [] _ (k+1,ms1,n.text) rfl (by simp) ⟨zAi _,hlt,by simpa using hb1,hold1,hrow1,hte,by simp only;omega,by have e:(⟨n.kind,n.name,n.attrs,n.text,n.kids⟩:Node)=n:=(by cases n;rfl);simp only;rw[e];exact hmg⟩ ?_
    rintro⟨k2,ms2,s⟩ ⟨hkk,hk2l,hb2,hold2,hrow2,hsne,hts,hmg2⟩ N2 hN2;simp only at hkk hk2l hb2 hold2 hrow2 hsne hts hmg2;have hstr:=Pg hb2;rw[if_neg hsne]at hstr;have hjr2:=(zAb.1 hrow2).1
    have fin:Ka (out++[⟨n.kind,n.name,n.attrs,s,n.kids⟩]) (l.drop k2)->∀τ:St,τ.nrm [0,3,4]=⟨[(0,.seq 5 (l.map Node.v)),(3,.q 1 m0.length (out.length+1) 0 0),(4,.int .i64 k2)],[some (.pool ((ms2.set ms.length .no).set m0.length (.rw 41 5 (out.map Node.v++[.strct [.int .i64 2,.str n.name,.seq 2 (n.attrs.map Attr.v),.str s,.seq 5 (n.kids.map Node.v)]]))))]⟩->N τ:=fun hap2 τ hτ=>by
     refine hN.out _<|Nx.mk (k2,(ms2.set ms.length .no).set m0.length (.rw 41 5 (out.map Node.v++[.strct [.int .i64 2,.str n.name,.seq 2 (n.attrs.map Attr.v),.str s,.seq 5 (n.kids.map Node.v)]])),out++[⟨n.kind,n.name,n.attrs,s,n.kids⟩]) (by rw[hτ];simp) ⟨hk2l,fun j p hj=>?_,?_,hap2,by simp;omega,hmg2⟩ (by simp only;omega)
     ·have hlt0:=(zAb.1 hj).1
      simp only;rw[zAc (by omega),zAc (by omega)];exact hold2 j p hj
     ·simp only
      rw[zAe (by rw[List.length_set];exact hjr2)]
      simp[hk2]
    have hno:∀y,(ms2.set ms.length y)[m0.length]?=some (.rw 41 5 (out.map Node.v)):=fun y=>by rw[zAc (by omega)];exact hrow2
    rcases place l k2 hk2l with⟨hke2,hd2⟩|⟨hlt2,m,hm,hd2⟩
    ·have hap2:Ka (out++[⟨n.kind,n.name,n.attrs,s,n.kids⟩]) (l.drop k2):=fun o n' _ h'=>by rw[hd2]at h';simp at h'
     simp(disch:=omega) [-zAa,hke2];refine ar [] 1 [0] (by simp) (by simp) (by simp) (by simp) hstr (by simp) fun _ _=>?_
     simp(disch:=omega) [-zAa,hno];exact fin hap2 _ (by simp[hke2])
    ·by_cases hmk:m.kind=2
     ·rw[eE hm]at hmg2
      rw[BU hk2 hmk]at hmg2;have htd2:=Du hm;have hws2:=pI hb2 m.text (by omega)
      simp(disch:=omega) [-zAa,hm,hmk];refine ar [] 1 [0] (by simp) (by simp) (by simp) (by simp) hws2 (by simp) fun _ _=>?_
      simp(disch:=omega) [-zAa];refine hN2.out _<|Nx.mk (k2+1,wsQ ms2 (ms.length+1) ms.length s m.text,s++m.text) (by simp) ⟨by simp only;omega,by simp only;omega,hb2.write m.text,fun j p hj=>?_,?_,by simp[hsne],by simp;omega,hmg2⟩ (by simp only;omega)
      ·have hlt0:=(zAb.1 hj).1
       simp only;rw[qh (by omega) (by omega)];exact hold2 j p hj
      ·simp only
       rw[qh (by omega) (by omega)];exact hrow2
     ·have hap2:Ka (out++[⟨n.kind,n.name,n.attrs,s,n.kids⟩]) (l.drop k2):=fun o n' _ h' e=>by
       rw[eE hm]at h';simp at h';subst h';exact hmk e.1
      simp(disch:=omega) [-zAa,hm,hmk];refine ar [] 1 [0] (by simp) (by simp) (by simp) (by simp) hstr (by simp) fun _ _=>?_
      simp(disch:=omega) [-zAa,hno];exact fin hap2 _ (by simp)
  ·simp(disch:=omega) [-zAa,hn,hk2,hds]
   refine ay (by simpa using hcl) (by simp) fun _=>?_
   rw[rk hap (fun e=>hk2 e.1)]at hmg;simp(disch:=omega) [-zAa,hrow,hk2];refine hN.out _<|Nx.mk (k+1,ms.set m0.length (.rw 41 5 (out.map Node.v++[n.v])),out++[n]) (by simp) ⟨by simp only;omega,fun j p hj=>?_,?_,fun o n' ho hn' e=>?_,by simp;omega,hmg⟩ (by simp only;omega)
   ·have hlt0:=(zAb.1 hj).1
    simp only;rw[zAc (by omega)];exact hold j p hj
   ·simp only
    rw[zAe hjr];simp
   ·simp only at ho
    rw[D9]at ho;cases ho;exact hk2 e.2
def K6(n:Node):List V:=[.int .i64 n.kind,.str n.name,.seq 2 (n.attrs.map Attr.v),.str n.text,.seq 5 (n.kids.map Node.v)]
theorem AD(m0:List Po)(par:Str)(n:Node)(hp:par.length<=1000000)(ht:n.text.length<=100000000):FnH Tryz.prog BM [1] [.str par,.ptr 1 0] [some (.pool m0),some (.box (K6 n))] (.bool (b9 par n)) [some (.pool m0),some (.box (K6 n))]:=by
 refine yoH zN ?_;simp(disch:=omega) [-zAa,b9,K6];refine ah (by simpa using uz par n hp ht) rfl fun _=>?_
 simp(disch:=omega) [-zAa];refine BrK.mk (fun h1=>?_) (fun h1=>?_)
 ·simp(disch:=omega) [-zAa,h1]
  refine BrKd.mk (fun h2=>?_) (fun h2=>?_)
  ·simp(disch:=omega) [-zAa,h2]
   have hc:=sR n.text vc (by omega)
   rw[<-zT vc (by simp[vc])]at hc
   refine ah hc rfl fun _=>?_;simp(disch:=omega) [-zAa,h2]
  ·simp(disch:=omega) [-zAa,h2]
 ·simp(disch:=omega) [-zAa,h1]
def StZ(m0:List Po)(es R:List Node)(r:V)(H':List (Option Ob)):Prop:=
 ∃ms' v,H'=[some (.pool ms'),some (.arr 41 5 (es.map Node.v))]/\r=.tup [v,.ref 1 es.length]/\
   (∀(j:Nat)(p:Po),m0[j]?=some p->ms'[j]?=some p)/\((v=.nil 5/\R=[])\/(v=.q 1 m0.length R.length 0 0/\ms'[m0.length]?=some (.rw 41 5 ((R.map bA).map Node.v))))
theorem AB(m0:List Po)(par:Str)(l:List Node)(hw:an wOK l)(hf:an gg l)(hc:aj l<=1000000)(ht:bh l<=100000000)(hp:par.length<=1000000):
 FnX Tryz.prog zj [] [.str par,.seq 5 (l.map Node.v)] [some (.pool m0)] (StZ m0 ((l.filter (b9 par)).filter isE) (nR par l)):=by
 have hll:=dS l;have htl:=Uu l;generalize hES:(l.filter (b9 par)).filter isE=ES;generalize hRW:(l.filter (b9 par)).map bA=RW;have hRWl:RW.length<=l.length:=by rw[<-hRW,zBj];exact zBe _ _
 refine FnX.of_image mixed zM.1 zM.2 rfl fun ho hh=>?_;clear ho hh;simp(disch:=omega) [-zAa]
 refine au (fun(q:Nat×List Node×List Node)=>⟨[(0,.str par),(4,.ref 1 q.2.1.length),(5,.ref 2 q.2.2.length),(8,.seq 5 (l.map Node.v)),(9,.int .i64 l.length),(10,.int .i64 q.1)],[some (.pool m0),some (.arr 41 5 (q.2.1.map Node.v)),some (.arr 41 5 (q.2.2.map Node.v))]⟩)
  (fun q=>q.1<=l.length/\q.2.1.length<=q.1/\q.2.2.length<=q.1/\q.2.1++((l.drop q.1).filter (b9 par)).map bA=RW/\q.2.2++((l.drop q.1).filter (b9 par)).filter isE=ES) (fun q=>l.length-q.1) [.r 4 41 5,.r 5 41 5] _ (0,[],[]) rfl (by simp) ⟨zBa _,zAi _,zAi _,by simpa using hRW,by simpa using hES⟩ ?_
 rintro⟨k,rw',es⟩ ⟨hk,h1,h2,h3,h4⟩ N hN;simp only at hk h1 h2 h3 h4;rcases place l k hk with⟨hke,hd⟩|⟨hlt,n,hn,hd⟩<;>rw[hd]at h3 h4
 ·simp only[List.filter_nil,zCb,zBi]at h3 h4
  subst h3 h4;have hrow:=Yd par l;rw[hRW]at hrow
  have hsub:∀x∈rw',∃y∈l,x=bA y:=fun x hx=>by
   rw[<-hRW]at hx;obtain⟨y,hy,rfl⟩:=List.mem_map.1 hx;exact⟨y,(List.mem_filter.1 hy).1,rfl⟩
  have hra:an gg rw':=aP.2 fun x hx=>by
   obtain⟨y,hy,rfl⟩:=hsub x hx;obtain⟨g1,g2⟩:=aP.1 hf y hy;unfold bA;split
   ·exact⟨⟨g1.1,by simp⟩,trivial⟩
   ·exact⟨g1,g2⟩
  have hrt:bZ rw'<=bZ l:=by
   rw[<-hRW];have h1:=oo (b9 par) l
   have h2:∀K:List Node,bZ (K.map bA)=bZ K:=fun K=>by
    induction K with
    |nil=>rfl
    |cons x K ih=>
      simp only[bZ,zAj,List.sum_cons]at *;rw[ih];have:(bA x).text=x.text:=by unfold bA;split<;>rfl
      rw[this]
   rw[h2];exact h1
  have hrc:aj rw'<=aj l:=by
   rw[<-hRW]
   have:∀K:List Node,aj ((K.filter (b9 par)).map bA)<=aj K:=fun K=>by
    induction K with
    |nil=>simp
    |cons x K ih=>
      simp only[zAh,aj];split
      ·simp only[zAj,aj]
       have:j6 (bA x)<=j6 x:=by unfold bA;split<;>simp only[sY,aj]<;>omega
       omega
      ·omega
   exact this l
  have hmg:=JO m0 rw' hra (by omega) (by omega)
  rw[hrow]at hmg
  have hmt:∀m∈mK par l,m.text.length<=100000000:=fun m hm=>by
   have h1:=Hz hm;have h2:=(mL (l.filter (b9 par))).2;have h3:=oo (b9 par) l;simp only[mK]at h1;omega
  have hrl:(mK par l).length<=1000000:=by
   have h2:=(mL (l.filter (b9 par))).1;have h3:=zBe (b9 par) l;simp only[mK];omega
  clear hra hrt hrc hsub hrow hRW;have hrT:nR par l=if raw par=true/\∃m,(mK par l)[0]?=some m/\cJ par m=false then[]else mK par l:=rfl
  generalize nR par l=R at *;generalize mK par l=M at *;simp(disch:=omega) [-zAa,hke];refine Dp [] 1 [0,1] (by simp) (by simp) (by simp) (by simp) hmg ?_
  rintro r H' ⟨ms',rfl,rfl,hext,hrw⟩;refine⟨by simp,fun _ _=>?_⟩
  simp(disch:=omega) [-zAa];refine ah (Es par) rfl fun _=>?_;cases hraw:raw par
  ·rw[if_neg (by simp[hraw])]at hrT
   subst hrT;simp(disch:=omega) [-zAa,hraw,hrw];exact⟨_,_,⟨ms',_,rfl,rfl,hext,.inr ⟨rfl,by simpa using hrw⟩⟩,by simp⟩
  ·cases M with
   |nil=>
     rw[if_neg (by simp)]at hrT
     subst hrT;simp(disch:=omega) [-zAa,hraw,hrw];exact⟨_,_,⟨ms',_,rfl,rfl,hext,.inr ⟨rfl,by simpa using hrw⟩⟩,by simp⟩
   |cons m M=>
     have hfit:=uz par (bA m) hp (by
      have:(bA m).text=m.text:=by unfold bA;split<;>rfl
      rw[this];exact hmt m (by simp))
     have hfs:cJ par (bA m)=cJ par m:=by
      unfold bA;split<;>rfl
     rw[hfs]at hfit;simp only[zAj]at hrw;simp(disch:=omega) [-zAa,hraw,hrw];refine ah (by simpa using hfit) rfl fun _=>?_
     cases hff:cJ par m
     ·rw[if_pos ⟨hraw,m,by simp,hff⟩]at hrT
      subst hrT;simp(disch:=omega) [-zAa,hff];exact⟨_,_,⟨ms',_,rfl,rfl,hext,.inl ⟨rfl,rfl⟩⟩,by simp⟩
     ·rw[if_neg (by rintro⟨_,x,hx,hx2⟩;simp at hx;subst hx;rw[hff]at hx2;cases hx2)]at hrT
      subst hrT;simp(disch:=omega) [-zAa,hff];exact⟨_,_,⟨ms',_,rfl,rfl,hext,.inr ⟨rfl,by simpa using hrw⟩⟩,by simp⟩
 ·obtain⟨hwn,_⟩:=aP.1 hw n (zAf hn)
  have htn:=Hx (zAf hn);rw[li]at htn;have hst:=AD m0 par n hp (by omega)
  simp only[zAh]at h3 h4;cases hs:b9 par n
  ·rw[hs]at h3 h4 hst
   simp only[if_false,zBh]at h3 h4;simp(disch:=omega) [-zAa,hn];refine ar [1] 2 [0,3] (by simp) (by simp) (by simp) (by simp[K6]) hst (by simp) fun _ _=>?_
   simp(disch:=omega) [-zAa,K6];refine hN.out _<|Nx.mk (k+1,rw',es) (by simp) ⟨by simp only;omega,by simp only;omega,by simp only;omega,h3,h4⟩ (by simp only;omega)
  ·rw[hs]at h3 h4 hst
   simp only[if_true]at h3 h4;simp(disch:=omega) [-zAa,hn];refine ar [1] 2 [0,3] (by simp) (by simp) (by simp) (by simp[K6]) hst (by simp) fun _ _=>?_
   simp(disch:=omega) [-zAa,K6];by_cases hk1:n.kind=1
   ·simp only[zAj,zAh,isE,hk1,decide_true,if_true]at h3 h4
    simp(disch:=omega) [-zAa,hk1];refine hN.out _<|Nx.mk (k+1,rw'++[bA n],es++[n]) (by simp[bA,hk1]) ⟨by simp only;omega,by simp;omega,by simp;omega,by simpa using h3,by simpa[isE]using h4⟩ (by simp only;omega)
   ·have hsn:bA n=n:=by unfold bA;rw[if_neg hk1]
    simp only[zAj,zAh,isE,hk1,decide_false,if_false,zBh,hsn]at h3 h4;simp(disch:=omega) [-zAa,hk1];refine hN.out _<|Nx.mk (k+1,rw'++[n],es) (by simp) ⟨by simp only;omega,by simp;omega,by simp only;omega,by simpa using h3,by simpa[isE]using h4⟩ (by simp only;omega)
theorem Sy:∀l:List Node,aj l<=aN l:=by
 refine ax (by simp[aj,aN]) ?_
 intro n l h1 h2;simp only[aj,sY,aN,jH];omega
theorem WM(par:Str)(l:List Node):aN (stT par l)<=aN l:=by
 have g1:=oe (cJ par) (bc ((aS par l).flatMap aL));have g2:=mf ((aS par l).flatMap aL);have g3:=yw (cJ par) l;have g4:=me l;simp only[stT,aS]at *;omega
def okS(n:Node):Prop:=(wOK n/\gg n)/\n.name.length<=1000000
def PJ9(p:Jb):Prop:=∃par fr,p.ag=[.str par,.seq 5 (fr.map Node.v)]/\p.sp=stT par fr/\an okS fr/\aN fr<=1000000/\bh fr<=100000000/\par.length<=1000000
theorem WN{l:List Node}{n:Node}(h:n∈l):wtN n<=aN l:=by
 induction l with
 |nil=>cases h
 |cons x l ih=>
   simp only[aN];rcases zCa.1 h with rfl|h
   ·omega
   ·have:=ih h;omega
theorem MY{par:Str}{l:List Node}{m:Node}(h:m∈nR par l):m∈mK par l:=by
 unfold nR at h;split at h
 ·cases h
 ·exact h
theorem Wh{par:Str}{l:List Node}{x:Node}{tg:Option (Nat×Nat×Nat)}(hx:x∈nR par l)(hl:an okS l)(hw:aN l<=1000000)(ht:bh l<=100000000):PJ9 ⟨stT x.name x.kids,[.str x.name,.seq 5 (x.kids.map Node.v)],tg⟩:=by
 obtain⟨n,hn,_,e1,e2,e3,e4⟩:=Fv (MY hx);obtain⟨g1,g2⟩:=aP.1 hl n hn;have h1:=WN hn;have h2:=Hx hn;rw[jH]at h1;rw[li]at h2;exact⟨x.name,x.kids,rfl,rfl,by rw[e4];exact g2,by rw[e4];omega,by rw[e4];omega,by rw[e2];exact g1.2⟩
theorem Q9{par:Str}{l:List Node}{x:Node}(hx:x∈nR par l)(hl:an okS l)(hk:x.kind≠1):x.kids=[]:=by
 obtain⟨n,hn,_,e1,e2,e3,e4⟩:=Fv (MY hx);obtain⟨g1,g2⟩:=aP.1 hl n hn;rw[e4];exact(yB (by rw[<-e1];exact hk) g1.1.1).2.2.2
theorem KD{x:Node}(h:x.kind≠1->x.kids=[]):(bA x).v=ee (gN x) (.seq 5 []):=by
 unfold bA gN ee;by_cases hk:x.kind=1
 ·simp[hk]
 ·simp[hk,h hk]
theorem UQ{par:Str}{l:List Node}(h:nR par l≠[]):(nR par l).filter isE=(l.filter (b9 par)).filter isE:=by
 rw[<-Vg];unfold nR at h⊢;split
 ·rename_i h';rw[if_pos h']at h;exact(h rfl).elim
 ·rfl
theorem Ni{m0 ms1:List Po}(h:∀(j:Nat)(p:Po),m0[j]?=some p->ms1[j]?=some p):m0.length<=ms1.length:=by
 rcases Nat.eq_zero_or_pos m0.length with e|e
 ·omega
 ·obtain⟨p,hp⟩:=bq (l:=m0) (k:=m0.length-1) (by omega)
  have:=(zAb.1 (h _ _ hp)).1;omega
theorem AE(l:List Node)(hl:an okS l)(hw:aN l<=1000000)(ht:bh l<=100000000):Fn Tryz.prog oP [.seq 5 (l.map Node.v)] (.seq 5 ((stT [] l).map Node.v)):=by
 generalize hT0:stT [] l=T;have hTw:aN T<=aN l:=by rw[<-hT0];exact WM _ _
 have hTc:=Sy T;refine FnE.fn ?_;refine FnE.of_imageQ mixed zO.1 zO.2 rfl fun ho=>?_;clear ho;simp(disch:=omega) [-zAa]
 refine au (fun(q:List Po×Nat×List Jb)=>⟨[(3,.q 0 0 0 0 0),(4,.q 1 q.2.1 q.2.2.length 0 0)],[some (.pool q.1)]⟩)
  (fun q=>(∃S,TI PJ9 (fun m v=>v=ee m (.seq 5 [])) 41 86 3 0 T S 0 0 [] q.1 q.2.1 q.2.2)/\jmT q.2.2<=1+aj T) (fun q=>jmT q.2.2) [] _ ([.bx 0 [.nil 5],.rw 86 3 [Jb.v 0 ⟨T,[.str [],.seq 5 (l.map Node.v)],none⟩]],1,[⟨T,[.str [],.seq 5 (l.map Node.v)],none⟩]) rfl (by simp[Jb.v,Jb.tv])
  ⟨⟨_,TI.start ⟨[],l,rfl,hT0.symm,hl,hw,ht,by simp⟩ rfl rfl (by simp) rfl rfl⟩,by simp[eB]⟩ ?_
 rintro⟨ms,jw,J⟩ ⟨⟨S,hn⟩,hjm⟩ N hN;simp only at hn hjm;have hwt:=hn.wait;rcases List.eq_nil_or_concat J with rfl|⟨J0,q,rfl⟩
 ·obtain⟨v,F,hv,hF⟩:=hn.read
  simp only[zCb]at hwt;have hv2:=hn.var;obtain⟨v',hv',hg⟩:=hv2;rw[hv]at hv';cases hv';rcases hg with⟨rfl|rfl,_⟩|⟨j',rfl,_⟩
  all_goals
   simp(disch:=omega) [-zAa,hwt,hv];exact⟨_,F,[.seq 5 (T.map Node.v)],rfl,by simp[fY,hF],rfl⟩
 ·rw[List.concat_eq_append]at *
  have hpop:=hn.pop;obtain⟨⟨par,fr,hag,hsp,hfr,hfw,hft,hpl⟩,_,_⟩:=hn.jobs q (by simp)
  have hJm:(J0.map (Jb.v 0)).length=J0.length:=by simp
  have hJl:=tX (J0++[q]);rw[ci,eB]at hjm hJl
  obtain⟨a,tj,tn,ti,tt,hT⟩:∃a j n i o,q.tv 0=.q a j n i o:=by
   unfold Jb.tv;split
   ·exact⟨_,_,_,_,_,rfl⟩
   ·exact⟨_,_,_,_,_,rfl⟩
  have hqv:Jb.v 0 q=.strct [.str par,.seq 5 (fr.map Node.v),.q a tj tn ti tt]:=by simp[Jb.v,hag,hT]
  have hwt':ms[jw]?=some (.rw 86 3 (J0.map (Jb.v 0)++[.strct [.str par,.seq 5 (fr.map Node.v),.q a tj tn ti tt]])):=by rw[hwt];simp[hqv]
  have hql:(J0.map (Jb.v 0)++[V.strct [.str par,.seq 5 (fr.map Node.v),.q a tj tn ti tt]])[J0.length]?=some (.strct [.str par,.seq 5 (fr.map Node.v),.q a tj tn ti tt]):=by
   rw[<-hJm];exact zAg ..
  have hqt:(J0.map (Jb.v 0)++[V.strct [.str par,.seq 5 (fr.map Node.v),.q a tj tn ti tt]]).take J0.length=J0.map (Jb.v 0):=by rw[<-hJm,List.take_left]
  have hJl2:J0.length+1<=1000001:=by simp at hJl;omega
  have hml:(ms.set jw Po.no++[Po.rw 86 3 (J0.map (Jb.v 0))]).length=ms.length+1:=by simp
  generalize hM0:ms.set jw Po.no++[Po.rw 86 3 (J0.map (Jb.v 0))]=m0 at *;have hst:=AB m0 par fr (dK (fun n h _=>h.1.1) fr hfr) (dK (fun n h _=>h.1.2) fr hfr) (by have:=Sy fr;omega) hft hpl
  simp(disch:=omega) [-zAa,hwt',hql,hJm,hqt,hM0];refine Dp [] 1 [0] (by simp) (by simp) (by simp) (by simp) hst ?_
  have hspR:q.sp=(nR par fr).map gN:=by rw[hsp,UC]
  have hRl:∀x∈nR par fr,x.kind≠1->x.kids=[]:=fun x hx=>Q9 hx hfr;have hRk:∀x∈nR par fr,∀tg,PJ9 ⟨stT x.name x.kids,[.str x.name,.seq 5 (x.kids.map Node.v)],tg⟩:=fun x hx tg=>Wh hx hfr hfw hft;have hes:nR par fr≠[]->(fr.filter (b9 par)).filter isE=(nR par fr).filter isE:=fun h=>(UQ h).symm;generalize(fr.filter (b9 par)).filter isE=es at *;generalize nR par fr=R at *;rintro r H' ⟨ms1,v,rfl,rfl,hext,hv⟩;refine⟨by simp,fun _ _=>?_⟩
  rcases hv with⟨rfl,rfl⟩|⟨rfl,hrw⟩
  ·simp(disch:=omega) [-zAa]
   have hx:=hpop.ext (Ni hext) (fun j p hj _=>hext j p hj);have hq0:q.sp=[]:=by rw[hspR];rfl
   refine au (fun(_:Nat)=>⟨[(3,.q 0 0 0 0 0),(4,.q 1 ms.length J0.length 0 0),(5,.ptr 1 0),(6,.nil 5),(7,.ref 2 es.length),(35,.int .i64 0),(36,.int .i64 0)],[some (.pool ms1),some (.box [.str par,.seq 5 (fr.map Node.v),.q a tj tn ti tt]),some (.arr 41 5 (es.map Node.v))]⟩) (fun _=>True) (fun _=>0) [] _ 0 rfl (by simp) trivial ?_
   rintro k0 _ N2 hN2;cases htg:q.tg with
   |none=>
     have hs0:=hx.store0 (u:=.nil 5) (.inl ⟨.inl rfl,hq0⟩) htg;have e:V.q a tj tn ti tt=.q 0 0 0 0 0:=by rw[<-hT];simp[Jb.tv,htg]
     cases e;obtain⟨v,hv,_⟩:=hx.var;simp(disch:=omega) [-zAa,hv];exact hN.out _<|Nx.mk (ms1.set 0 (.bx 0 [.nil 5]),ms.length,J0) (by simp) ⟨⟨S,hs0⟩,by simp only;omega⟩ (by simp only[ci,eB];omega)
   |some tg=>
     obtain⟨j,n,i⟩:=tg;obtain⟨e2,m2,kc,g1,g2,g3,g4⟩:=hx.store1 (u:=.nil 5) (.inl ⟨.inl rfl,hq0⟩) htg;have e:V.q a tj tn ti tt=.q 2 j n i 4:=by rw[<-hT];simp[Jb.tv,htg]
     cases e;subst g2;simp only[ee]at g3 g4;have hil:=(zAb.1 g3).1;simp(disch:=omega) [-zAa,g1,g3];exact hN.out _<|Nx.mk (_,ms.length,J0) (by simp) ⟨⟨S,g4⟩,by simp only;omega⟩ (by simp only[ci,eB];omega)
  ·simp(disch:=omega) [-zAa,hrw]
   have hx:=hpop.ext (Ni hext) (fun j p hj _=>hext j p hj);have hspl:q.sp.length=R.length:=by rw[hspR,zBj]
   have hn0:S m0.length=none:=by
    cases hs:S m0.length with
    |none=>rfl
    |some L=>have:=(hpop.dom _ _ hs).1;omega
   have hrow:TI PJ9 (fun m v=>v=ee m (.seq 5 [])) 41 86 3 0 T (vm S m0.length q.sp) m0.length 0 [q] ms1 ms.length J0:=hx.row hn0 (by omega) (by omega) hrw (by simp[hspl]) fun i m hm=>by
    rw[hspR,zBc]at hm;cases hR:R[i]? with
    |none=>rw[hR]at hm;cases hm
    |some x=>
      rw[hR]at hm;cases hm;exact⟨(bA x).v,by simp[zBc,hR],KD (hRl x (zAf hR))⟩
   have hS1:vm S m0.length q.sp m0.length=some q.sp:=vl ..;generalize vm S m0.length q.sp=S1 at *
   have hRb:R.length<=1000000:=by
    have:=dS q.sp;omega
   refine au (fun(x:Nat×List Po×List Jb×List Node)=>⟨[(3,.q 0 0 0 0 0),(4,.q 1 ms.length x.2.2.1.length 0 0),(5,.ptr 1 0),(6,.q 1 m0.length R.length 0 0),(7,.seq 5 (x.2.2.2.map Node.v)),(35,.int .i64 R.length),(36,.int .i64 x.1)],
    [some (.pool x.2.1),some (.box [.str par,.seq 5 (fr.map Node.v),.q a tj tn ti tt])]⟩)
    (fun x=>x.1<=R.length/\TI PJ9 (fun m v=>v=ee m (.seq 5 [])) 41 86 3 0 T S1 m0.length x.1 [q] x.2.1 ms.length x.2.2.1/\jmT x.2.2.1+aj (q.sp.drop x.1)<=jmT J0+aj q.sp/\(x.1<R.length->x.2.2.2=(R.drop x.1).filter isE)) (fun x=>R.length-x.1) [.z 7]
    ⟨[(7,.seq 5 (es.map Node.v)),(3,.q 0 0 0 0 0),(4,.q 1 ms.length J0.length 0 0),(5,.ptr 1 0),(6,.q 1 m0.length R.length 0 0),(7,.ref 2 es.length),(35,.int .i64 R.length),(36,.int .i64 0)],[some (.pool ms1),some (.box [.str par,.seq 5 (fr.map Node.v),.q a tj tn ti tt]),none]⟩
    (0,ms1,J0,es) (by simp) (by simp) ⟨zBa _,hrow,by simp,fun h=>by rw[hes (by intro e;rw[e]at h;simp at h)];rfl⟩ ?_
   rintro⟨k,mk,Jk,ek⟩ ⟨hk,hti,hjk,hek⟩ N2 hN2;simp only at hk hti hjk hek;have hw2:=hti.wait;obtain⟨el,he1,he2,he3⟩:=hti.rows _ _ hS1;have hlen2:=(hti.dom _ _ hS1).1;have hJkl:=tX Jk;rcases Nat.lt_or_ge k R.length with hlt|hge
   ·obtain⟨x,hx0⟩:=bq (l:=R) (k:=k) hlt
    have hxm:=zAf hx0;have hqx:q.sp[k]?=some (gN x):=by rw[hspR,zBc,hx0];rfl
    rw[eE hqx]at hjk;simp only[aj,sY]at hjk;have hek:=hek hlt;rw[eE hx0,zAh]at hek
    have hel:el[k]?=some (ee (gN x) (.seq 5 [])):=by
     rcases he3 k _ hqx with⟨_,v,h1,h2⟩|⟨h1,_⟩
     ·rw[h1,h2]
     ·exact(h1 ⟨rfl,zAi _⟩).elim
    by_cases hk1:x.kind=1
    ·have hgx:gN x=⟨x.kind,x.name,x.attrs,x.text,stT x.name x.kids⟩:=by unfold gN;rw[if_pos hk1]
     rw[hgx]at hel hqx hjk;simp only at hjk;have hx2:isE x=true:=by simp[isE,hk1]
     rw[if_pos hx2]at hek;subst hek;generalize hrest:(R.drop (k+1)).filter isE=rest at *;have ht1:List.take rest.length (rest.map Node.v)=rest.map Node.v:=List.take_of_length_le (by simp)
     have hJml:(Jk.map (Jb.v 0)).length=Jk.length:=by simp
     have w1:∀y:Po,(mk++[y])[ms.length]?=some (.rw 86 3 (Jk.map (Jb.v 0))):=fun y=>by rw[zAd (by omega)];exact hw2
     have w2:∀y:Po,(mk++[y])[mk.length]?=some y:=fun y=>zAg ..;have w4:∀x y:Po,(mk++[x]).set ms.length y=mk.set ms.length y++[x]:=fun x y=>List.set_append_left _ _ (by omega)
     have nx:=hti.next (ms':=(mk++[Po.rw 86 3 [Jb.v 0 ⟨stT x.name x.kids,[.str x.name,.seq 5 (x.kids.map Node.v)],some (m0.length,q.sp.length,k)⟩]]).set ms.length (.rw 86 3 (Jk.map (Jb.v 0)++[Jb.v 0 ⟨stT x.name x.kids,[.str x.name,.seq 5 (x.kids.map Node.v)],some (m0.length,q.sp.length,k)⟩])))
      (el':=el) (J':=Jk++[⟨stT x.name x.kids,[.str x.name,.seq 5 (x.kids.map Node.v)],some (m0.length,q.sp.length,k)⟩]) hS1 hqx he1 (by simp) (by rw[zAc (by omega),zAd (by omega)];exact he1) rfl (.inr rfl) hel (fun _ _=>rfl)
      (by rw[zAe (by simp;omega)];simp)
      (fun j p hj hne ho=>by
        have hlt:=(zAb.1 hj).1
        have hne2:j≠ms.length:=by
         rcases ho with rfl|⟨L,hL⟩
         ·exact hti.jo0.2
         ·exact(hti.dom j L hL).2.2
        rw[zAc (Ne.symm hne2),zAd hlt];exact hj)
      (.inr ⟨_,hRk x hxm _,rfl⟩)
     obtain⟨mk2,hmk2⟩:∃z,z=(mk++[Po.rw 86 3 [Jb.v 0 ⟨stT x.name x.kids,[.str x.name,.seq 5 (x.kids.map Node.v)],some (m0.length,q.sp.length,k)⟩]]).set ms.length (.rw 86 3 (Jk.map (Jb.v 0)++[Jb.v 0 ⟨stT x.name x.kids,[.str x.name,.seq 5 (x.kids.map Node.v)],some (m0.length,q.sp.length,k)⟩])):=⟨_,rfl⟩;rw[<-hmk2]at nx;simp only[ee]at hel;simp(disch:=omega) [-zAa,he1,he2,hspl,hlt,hel,hk1,w1,w2,hJml];refine hN2.out _<|Nx.mk (k+1,mk2,Jk++[⟨stT x.name x.kids,[.str x.name,.seq 5 (x.kids.map Node.v)],some (m0.length,q.sp.length,k)⟩],rest) (by subst hmk2;simp[hJml,Jb.v,Jb.tv,w4,hspl,ht1]) ⟨by simp only;omega,nx,by simp only[ci,eB];omega,fun _=>hrest.symm⟩ (by simp only;omega)
    ·have hgk:(gN x)=x:=by unfold gN;rw[if_neg hk1]
     rw[hgk]at hel hqx hjk;have hx2:isE x=false:=by simp[isE,hk1]
     rw[if_neg (by simp[hx2])]at hek
     have nx:=hti.next (ms':=mk) (el':=el) (J':=Jk) hS1 hqx he1 (zAi _) he1 rfl (.inr rfl) hel (fun _ _=>rfl) hw2 (fun _ _ h _ _=>h) (.inl ⟨rfl,hRl x hxm hk1⟩);simp only[ee]at hel;simp(disch:=omega) [-zAa,he1,he2,hspl,hlt,hel,hk1];exact hN2.out _<|Nx.mk (k+1,mk,Jk,ek) (by simp) ⟨by simp only;omega,nx,by simp only;omega,fun _=>hek⟩ (by simp only;omega)
   ·have hke:k=R.length:=by omega
    subst hke;have hd0:q.sp.drop R.length=[]:=List.drop_eq_nil_of_le (by omega)
    rw[hd0]at hjk;have hfull:=(show TI PJ9 (fun m v=>v=ee m (.seq 5 [])) 41 86 3 0 T S1 m0.length q.sp.length [q] mk ms.length Jk by rw[hspl];exact hti).full hS1
    cases htg:q.tg with
    |none=>
      have hs0:=hfull.store0 (.inr ⟨_,rfl,hS1⟩) htg;rw[hspl]at hs0;have e:V.q a tj tn ti tt=.q 0 0 0 0 0:=by rw[<-hT];simp[Jb.tv,htg]
      cases e;obtain⟨v,hv,_⟩:=hti.var;simp(disch:=omega) [-zAa,hv];exact hN.out _<|Nx.mk (mk.set 0 (.bx 0 [.q 1 m0.length R.length 0 0]),ms.length,Jk) (by simp) ⟨⟨S1,hs0⟩,by simp only[aj]at hjk⊢;omega⟩ (by simp only[ci,eB,aj]at hjk⊢;omega)
    |some tg=>
      obtain⟨j,n,i⟩:=tg;obtain⟨e2,m2,kc,g1,g2,g3,g4⟩:=hfull.store1 (.inr ⟨_,rfl,hS1⟩) htg;rw[hspl]at g4;have e:V.q a tj tn ti tt=.q 2 j n i 4:=by rw[<-hT];simp[Jb.tv,htg]
      cases e;subst g2;simp only[ee]at g3 g4;have hil:=(zAb.1 g3).1;simp(disch:=omega) [-zAa,g1,g3];exact hN.out _<|Nx.mk (_,ms.length,Jk) (by simp) ⟨⟨S1,g4⟩,by simp only[aj]at hjk⊢;omega⟩ (by simp only[ci,eB,aj]at hjk⊢;omega)
end Go.Abs.F
end
