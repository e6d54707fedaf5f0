/- The document's texts: strainerref02's Escape, stra. -/
import Derived.Test.YtedmnakfknbabaaGreatDoorPB0
import Derived.Test.YtedmnakfknbabaaGreatDoorPQ1
import Derived.Test.YtedmnakfknbabaaGreatDoorPF1
import Derived.Test.YtedmnakfknbabaaGreatDoorPCodeR
import Derived.Test.YtedmnakfknbabaaGreatDoorPQ8
import Derived.Test.YtedmnakfknbabaaGreatDoorCards
import Derived.Test.YtedmnakfknbabaaGreatDoorTie
import Derived.Test.YtedmnakfknbabaaGreatDoorPW0
import Derived.WalkKit
import Derived.ProofKit
import Derived.OpenShut
set_option linter.all false
set_option maxHeartbeats 0
open List renaming reduceReplicate→zAa,length_append→zAb,length_cons→zAc,length_nil→zAd,mem_of_getElem?→zAe,getElem?_append_right→zAf,length→zAg,mem_cons→zAh,not_mem_nil→zAj,append_nil→zBa,nil_append→zBb,map→zBc
open Bool renaming and_eq_true→zAi
open Nat renaming le_refl→zBd
open Option renaming some→zBe
section
set_option maxRecDepth 100000
namespace Go.Abs.F
open Go.Proofs Go.RowKit
attribute [-simp] getElem?_pos Option.not_isSome List.map_map
theorem oD(s:Str)(v:Bool)(hs:s.length<=1000000000):Fn Tryz.prog yd [.str s,.bool v] (.str (bN v s)):=by
 refine Fn.of_image mixed yH yv rfl fun ho=>?_;unfold pd;simp only[oks,ok,and_true]at ho;clear ho;simp(disch:=omega) [-zAa];have hwl:=tj v s;generalize hw:bN v s=w at hwl⊢
 refine ay (fun(q:Nat×Str)=>⟨[(0,.str s),(1,.bool v),(5,.str q.2),(6,.int .i64 q.1)],[]⟩)
  (fun q=>q.1<=s.length/\q.2++bN v (s.drop q.1)=w) (fun q=>s.length-q.1) [] _ (0,[]) rfl (by simp) (by simp[hw]) ?_
 rintro⟨k,out⟩ ⟨hk,hi⟩ N hN;simp only at hk hi;have hol:=congrArg zAg hi;rw[zAb]at hol;rcases place s k hk with⟨he,hd⟩|⟨hlt,x,hx,hd⟩<;>rw[hd]at hi
 ·simp only[bN,zBa]at hi
  subst hi;simp(disch:=omega) [-zAa,he]
 ·simp only[bN]at hi
  rw[<-List.append_assoc]at hi;have hx256:=x.toNat_lt;have htk:List.take 1 (s.drop k)=[x]:=by rw[hd];rfl
  have fin:N ⟨[(0,.str s),(1,.bool v),(5,.str (out++p7 v x)),(6,.int .i64 (k+1:Nat))],[]⟩:=
   hN.out _<|Nx.mk (k+1,out++p7 v x) (by simp) ⟨by simp only;omega,hi⟩ (by simp only;omega)
  unfold p7 at fin;by_cases h1:x.toNat=38
  ·rw[if_pos h1]at fin
   simp(disch:=omega) [-zAa,hx,h1];simpa using fin
  ·rw[if_neg h1]at fin
   by_cases h2:x.toNat=60
   ·rw[if_pos h2]at fin
    simp(disch:=omega) [-zAa,hx,h1,h2];simpa using fin
   ·rw[if_neg h2]at fin
    by_cases h3:x.toNat=62
    ·rw[if_pos h3]at fin
     simp(disch:=omega) [-zAa,hx,h1,h2,h3];simpa using fin
    ·rw[if_neg h3]at fin
     by_cases h4:x.toNat=34
     ·cases v with
      |true=>
        rw[if_pos ⟨h4,rfl⟩]at fin;simp(disch:=omega) [-zAa,hx,h1,h2,h3,h4];simpa using fin
      |false=>
        rw[if_neg (by simp)]at fin
        simp(disch:=omega) [-zAa,hx,h1,h2,h3,h4];simpa[htk]using fin
     ·rw[if_neg (by simp[h4])]at fin
      simp(disch:=omega) [-zAa,hx,h1,h2,h3,h4];simpa[htk]using fin
theorem ta(n:Node)(hk:n.kind=1)(hf:n.name.length+dn n.attrs<=1000000000):Fn Tryz.prog De [n.v] (.str (bL n.name n.attrs)):=by
 have hf1:=zA n.attrs;have hf2:=tW n.attrs;have e0:bL n.name n.attrs=60::n.name++(aW n.attrs++[62]):=by simp[bL]
 rw[e0];refine Fn.of_image mixed D7 DL rfl fun ho=>?_;unfold tK;simp only[oks,ok,and_true]at ho;clear ho;simp(disch:=omega) [-zAa,hk];have hwl:(60::n.name++(aW n.attrs++[62])).length<=1000000002:=by simp;omega
 generalize hw:60::n.name++(aW n.attrs++[62])=w at hwl⊢
 refine ay (fun(q:Nat×Str)=>⟨[(1,.ptr 0 0),(3,.str q.2),(4,.int .i64 q.1)],[some (.box [.int .i64 1,.str n.name,.seq 2 (n.attrs.map Attr.v),.str n.text,.seq 5 (n.kids.map Node.v)])]⟩)
  (fun q=>q.1<=n.attrs.length/\q.2++(aW (n.attrs.drop q.1)++[62])=w) (fun q=>n.attrs.length-q.1) [] _ (0,60::n.name) rfl (by simp) (by simp[<-hw]) ?_
 rintro⟨k,out⟩ ⟨hk2,hi⟩ N hN;simp only at hk2 hi;have hol:=congrArg zAg hi;simp only[zAb,zAc,zAd]at hol;rcases place n.attrs k hk2 with⟨he,hd⟩|⟨hlt,x,hx,hd⟩<;>rw[hd]at hi
 ·simp only[aW,zBb]at hi
  subst hi;simp(disch:=omega) [-zAa,he];simpa using hw.symm
 ·rw[hd]at hol
  simp only[aW,zAc,zAb]at hi hol;have ham:=zz (zAe hx);have hee:=tj true x.value;simp(disch:=omega) [-zAa,hx,hlt];refine a6 (oD x.value true (by omega)) rfl ?_
  simp(disch:=omega) [-zAa];exact hN.out _<|Nx.mk (k+1,out++[32]++x.name++[61,34]++bN true x.value++[34]) (by simp) ⟨by simp only;omega,by rw[<-hi];simp⟩ (by simp only;omega)
theorem NJ(l:List Node):aj l<=wNs 10 1 l:=by
 rw[PB];refine aC (p:=fun l=>wNs 1 0 l<=wNs 10 1 l) (zBd _) ?_ l;intro n l h1 h2;simp only[wNs,fN];omega
theorem Hn:∀(l:List Node),wNs 10 1 l<=1000000000->∀n∈l,∀rw:Bool,Fn Tryz.prog li [n.v,.bool rw] (.str (wrN rw n)):=by
 have key:∀n:Node,wN 10 1 n<=1000000000->(∀m∈n.kids,∀rw:Bool,Fn Tryz.prog li [m.v,.bool rw] (.str (wrN rw m)))->∀rw:Bool,Fn Tryz.prog li [n.v,.bool rw] (.str (wrN rw n)):=by
  intro n hw hrec rw;rw[fN]at hw;have hlen:=Bj n.kids;have hcl:=c6 n.kids;have hcw:=NJ n.kids;have hos:=tW n.attrs;rw[qO];refine Fn.of_image mixed GN Gq rfl fun ho=>?_;unfold vZ;simp only[oks,ok,and_true]at ho;clear ho;by_cases h1:n.kind=1
  ·rw[if_pos h1]
   simp(disch:=omega) [-zAa,h1];refine ac (td n.name) rfl fun _=>?_;by_cases hv:ew n.name=true
   ·rw[if_pos hv]
    simp(disch:=omega) [-zAa,hv];refine ac (by simpa[h1]using ta n h1 (by omega)) rfl fun _=>?_
    simp(disch:=omega) [-zAa]
   ·rw[if_neg hv]
    simp(disch:=omega) [-zAa,hv];refine ac (vN n.name) rfl fun _=>?_;simp(disch:=omega) [-zAa];refine ac (by simpa[h1]using ta n h1 (by omega)) rfl fun _=>?_
    have hob:(bL n.name n.attrs).length<=1000000000:=by simp only[bL,zAc,zAb,zAd];omega
    have hkb:=hlen (raw n.name);simp(disch:=omega) [-zAa];generalize hW:bL n.name n.attrs++(wrL (raw n.name) n.kids++aJ n.name)=w;have hwl:w.length<=3000000000:=by rw[<-hW];simp only[zAb,aJ,zAc,zAd];omega
    refine ay (fun(q:Nat×Str)=>⟨[(2,.ptr 0 0),(6,.bool (raw n.name)),(7,.str q.2),(8,.int .i64 q.1)],[some (.box [.int .i64 1,.str n.name,.seq 2 (n.attrs.map Attr.v),.str n.text,.seq 5 (n.kids.map Node.v)])]⟩)
     (fun q=>q.1<=n.kids.length/\q.2++(wrL (raw n.name) (n.kids.drop q.1)++aJ n.name)=w) (fun q=>n.kids.length-q.1) [] _ (0,bL n.name n.attrs) rfl (by simp) (by simp[<-hW]) ?_
    rintro⟨k,out⟩ ⟨hk2,hi⟩ N hN;simp only at hk2 hi;have hol:=congrArg zAg hi;simp only[zAb]at hol;rcases place n.kids k hk2 with⟨he,hd⟩|⟨hlt,x,hx,hd⟩<;>rw[hd]at hi hol
    ·simp only[wrL,zBb,aJ,zAc,zAb,zAd]at hi hol
     subst hi;simp(disch:=omega) [-zAa,he]
    ·simp only[wrL,zAb]at hi hol
     simp(disch:=omega) [-zAa,hx,hlt];refine ac (by simpa using hrec x (zAe hx) (raw n.name)) rfl fun _=>?_
     simp(disch:=omega) [-zAa];exact hN.out _<|Nx.mk (k+1,out++wrN (raw n.name) x) (by simp) ⟨by simp only;omega,by rw[<-hi];simp⟩ (by simp only;omega)
  ·rw[if_neg h1]
   by_cases h2:n.kind=2
   ·rw[if_pos h2]
    cases rw with
    |true=>simp(disch:=omega) [-zAa,h2]
    |false=>
      simp(disch:=omega) [-zAa,h2];refine ac (oD n.text false (by omega)) rfl fun _=>?_
      simp(disch:=omega) [-zAa]
   ·rw[if_neg h2]
    by_cases h3:n.kind=3
    ·simp(disch:=omega) [-zAa,h3,oS]
    ·simp(disch:=omega) [-zAa,h1,h2,h3]
 refine aC (p:=fun l=>wNs 10 1 l<=1000000000->∀n∈l,∀rw:Bool,Fn Tryz.prog li [n.v,.bool rw] (.str (wrN rw n))) (fun _ n h=>by cases h) ?_
 intro n l h1 h2 hw x hx;simp only[wNs]at hw;rcases zAh.1 hx with rfl|hx
 ·exact key x (by omega) (h1 (by rw[fN]at hw;omega))
 ·exact h2 (by omega) x hx
theorem s9(l:List Node)(hw:wNs 10 1 l<=1000000000):Fn Tryz.prog Dd [.seq 5 (l.map Node.v)] (.str (wrL false l)):=by
 have hlen:=Bj l false;have hcl:=c6 l;have hcw:=NJ l;refine Fn.of_image mixed D6 DK rfl fun ho=>?_;unfold tJ;simp only[oks,ok,and_true]at ho;clear ho;simp(disch:=omega) [-zAa];generalize hW:wrL false l=w at hlen⊢
 refine ay (fun(q:Nat×Str)=>⟨[(0,.seq 5 (l.map Node.v)),(3,.str q.2),(4,.int .i64 q.1)],[]⟩)
  (fun q=>q.1<=l.length/\q.2++wrL false (l.drop q.1)=w) (fun q=>l.length-q.1) [] _ (0,[]) rfl (by simp) (by simp[<-hW]) ?_
 rintro⟨k,out⟩ ⟨hk2,hi⟩ N hN;simp only at hk2 hi;have hol:=congrArg zAg hi;simp only[zAb]at hol;rcases place l k hk2 with⟨he,hd⟩|⟨hlt,x,hx,hd⟩<;>rw[hd]at hi hol
 ·simp only[wrL,zBa]at hi
  subst hi;simp(disch:=omega) [-zAa,he]
 ·simp only[wrL,zAb]at hi hol
  simp(disch:=omega) [-zAa,hx,hlt];refine ac (by simpa using Hn l hw x (zAe hx) false) rfl fun _=>?_
  simp(disch:=omega) [-zAa];exact hN.out _<|Nx.mk (k+1,out++wrN false x) (by simp) ⟨by simp only;omega,by rw[<-hi];simp⟩ (by simp only;omega)
def AW(b:Str):Str:=b.take 300
theorem Ht(b:Str)(hb:b.length<=1125899906842624):Fn Tryz.prog F2 [.seq 1 (b.map bV)] (.seq 1 ((AW b).map bV)):=by
 refine Fn.of_image mixed GW Gz rfl fun ho=>?_;unfold we;simp only[oks,ok,and_true]at ho;clear ho;by_cases h:300<b.length
 ·simp(disch:=omega) [-zAa,AW,h,-i9]
 ·have:AW b=b:=List.take_of_length_le (by omega)
  rw[this];simp(disch:=omega) [-zAa,h,-i9]
def Do:Str:=[60,112,62,97,60,100,105,118,62,98]
def yh:List Node:=[⟨1,[112],[],[],[⟨2,[],[],[97],[]⟩]⟩,⟨1,[100,105,118],[],[],[⟨2,[],[],[98],[]⟩]⟩]
theorem yg:cN (aO (bg Do))=yh:=by kernel_rfl
theorem F7:Small (bg Do):=Small.of (lZ _) (by have:=vu Do;have e:Do.length=10:=rfl;omega)
theorem sI:b6 yh=true:=by rw[<-yg];exact n8 (lZ _)
theorem LT:may yh=0:=by
 have:=sI;unfold b6 at this;rw[zAi,decide_eq_true_eq]at this;exact this.1
theorem di:Fn Tryz.prog z7 [] (.bool true):=by
 have hp:=qq Do (by decide) F7
 rw[yg]at hp;have hk:=iF yh LT (by decide) (by decide)
 rw[sI]at hk;have hp2:Fn Tryz.prog qh [.seq 1 [.int .u8 60,.int .u8 112,.int .u8 62,.int .u8 97,.int .u8 60,.int .u8 100,.int .u8 105,.int .u8 118,.int .u8 62,.int .u8 98]] (.seq 5 (yh.map Node.v)):=hp;refine Fn.of_imageE mixed AT Ax rfl fun ho=>?_;unfold qJ;simp only[oks,ok,and_true]at ho;clear ho;simp(disch:=omega) [-zAa];refine aq hp2 (by simp) fun _=>?_
 simp(disch:=omega) [-zAa,yh];refine ac hk rfl fun _=>?_;simp(disch:=omega) [-zAa]
theorem mG{l:List Node}(h:b6 l=true):may l=0:=by
 unfold b6 at h;rw[zAi,decide_eq_true_eq]at h;exact h.1
theorem uN(b:Str)(hb:b.length<=1125899906842624):FnE Tryz.prog cH [.seq 1 (b.map bV)] (.bool true):=by
 have hl:(AW b).length<=300:=by unfold AW;rw[List.length_take];omega
 have hr:=vu (AW b);have hR:=lZ (AW b);have hS:Small (bg (AW b)):=Small.of hR (by omega)
 obtain⟨h1,h2⟩:=Is hR;have hs:=n8 hR;have hm:=mG hs;have hpb:=qq (AW b) (by omega) hS
 generalize cN (aO (bg (AW b)))=T at *;have hf:=w5 (l:=T) (by omega)
 have hk:=iF T hm (by omega) (by omega)
 have hst:=oC T hf;have hmy:=vO T hf;rw[hs]at hk hst;rw[hm]at hmy;refine FnE.of_image mixed iw uF rfl fun ho=>?_;unfold mr;clear ho;simp(disch:=omega) [-zAa,-i9];refine aq (Ht b hb) (by simp[-i9]) fun _=>?_
 simp(disch:=omega) [-zAa,-i9];refine aq hpb (by simp[-i9]) fun _=>?_
 simp(disch:=omega) [-zAa,-i9];refine ac hmy rfl fun _=>?_;simp(disch:=omega) [-zAa];refine ac hst rfl fun _=>?_;simp(disch:=omega) [-zAa];refine ac hk rfl fun _=>?_;simp(disch:=omega) [-zAa];refine ac di rfl fun _=>?_;simp(disch:=omega) [-zAa]
theorem JW{l:List Node}(h:wNs 10 1 l<=1000000):ar pg l/\l.length<=1000000:=
 ⟨EQ (fun n ⟨_,_,c,_,d⟩=>⟨c,d⟩) l (NK l _ h),by have:=JX l;have:=c6 l;omega⟩
theorem rM(l:List Node):FnE Tryz.prog bW [.seq 5 (l.map Node.v)] (.bool true):=by
 have hgw:=G1 l;have hsw:=uL l;have hgc:=(oy l).2.1;have hsc:=(G0 l).2.1;have hss:=lI l;have hsm:=mG hss;have hgk:=iF (bC l) (Jl l) (by omega) (by omega)
 have hgs:=oC (bC l) (w5 (by omega))
 have hsk:=iF (cc l) hsm (by omega) (by omega)
 have hsa:=qr (cc l) hsm (by omega) (by omega)
 rw[nj hss]at hsa;rw[hss]at hsk;have hse:=lx (cc l) (JW (by omega)).1 (JW (by omega)).2
 have hG:=te l;have hS:=m9 l;generalize b6 (bC l)=st at *;generalize bC l=g at *;generalize cc l=s at *;refine FnE.of_image mixed fH rt rfl fun ho=>?_;unfold kK;clear ho;simp(disch:=omega) [-zAa];refine aq hG (by simp) fun _=>?_
 simp(disch:=omega) [-zAa];refine aq hS (by simp) fun _=>?_
 simp(disch:=omega) [-zAa];refine ac hgk rfl fun _=>?_;simp(disch:=omega) [-zAa];refine ac hgs rfl fun _=>?_;simp(disch:=omega) [-zAa];refine ac hsk rfl fun _=>?_;simp(disch:=omega) [-zAa];refine aq hsa (by simp) fun _=>?_
 simp(disch:=omega) [-zAa];refine ac hse rfl fun _=>?_;simp(disch:=omega) [-zAa];refine ac di rfl fun _=>?_;simp(disch:=omega) [-zAa]
theorem rN(a b:List Node):FnE Tryz.prog bX [.seq 5 (a.map Node.v),.seq 5 (b.map Node.v)] (.bool true):=by
 have hxw:=uL a;have hyw:=uL b;have hxs:=lI a;have hys:=lI b;have hX:=m9 a;have hY:=m9 b;have hxc:=JX (cc a);have hyc:=JX (cc b);have hxl:=c6 (cc a);have hyl:=c6 (cc b);have hxt:=s9 (cc a) (by omega)
 have hyt:=s9 (cc b) (by omega)
 have hxz:=Bj (cc a) false;have hyz:=Bj (cc b) false;generalize cc a=x at *;generalize cc b=y at *;refine FnE.of_image mixed fI ru rfl fun ho=>?_;unfold kL;clear ho;simp(disch:=omega) [-zAa];refine aq hX (by simp) fun _=>?_
 simp(disch:=omega) [-zAa];refine aq hY (by simp) fun _=>?_
 have seam:∀h:¬((x[x.length-1]?).map Node.kind=some 2/\(y[0]?).map Node.kind=some 2),Fn Tryz.prog mQ [.str (wrL false x++wrL false y)] (.seq 5 ((x++y).map Node.v)):=fun h=>by
  have hR:Rt (wrL false x++wrL false y):=(xq x false false (mG hxs)).append (xq y false false (mG hys));have:=tf _ (Small.of hR (by rw[zAb];omega))
  rw[I2 hxs hys h]at this;exact this
 have hse:=lx (x++y) (JW (by rw[cj];omega)).1 (JW (by rw[cj];omega)).2
 rw[List.map_append]at hse seam;rcases List.eq_nil_or_concat x with hx|⟨u,o,hx⟩
 ·subst hx
  have hP:=seam (by simp)
  simp(disch:=omega) [-zAa];refine ac (by simpa using hxt) rfl fun _=>?_
  simp(disch:=omega) [-zAa];refine ac hyt rfl fun _=>?_;simp(disch:=omega) [-zAa];refine aq (by simpa[wrL]using hP) (by simp) fun _=>?_
  simp(disch:=omega) [-zAa];refine ac (by simpa using hse) rfl fun _=>?_
  simp(disch:=omega) [-zAa];refine ac di rfl fun _=>?_;simp(disch:=omega) [-zAa]
 ·rw[List.concat_eq_append]at hx
  subst hx;have hg:∀v:V,(zBc Node.v u++[v])[u.length]?=some v:=fun v=>by rw[zAf (by simp)];simp
  have hul:(u++[o]).length=u.length+1:=by simp
  cases y with
  |nil=>
    have hP:=seam (by simp)
    simp(disch:=omega) [-zAa];refine ac (by simpa using hxt) rfl fun _=>?_
    simp(disch:=omega) [-zAa];refine ac (by simpa using hyt) rfl fun _=>?_
    simp(disch:=omega) [-zAa];refine aq (by simpa[wrL]using hP) (by simp) fun _=>?_
    simp(disch:=omega) [-zAa];refine ac (by simpa using hse) rfl fun _=>?_
    simp(disch:=omega) [-zAa];refine ac di rfl fun _=>?_;simp(disch:=omega) [-zAa]
  |cons n y=>
    have rest:(¬(o.kind=2/\n.kind=2))->Fn Tryz.prog mQ [.str (wrL false (u++[o])++wrL false (n::y))] (.seq 5 (zBc Node.v (u++[o])++zBc Node.v (n::y))):=fun h=>seam (by
     rw[hul,Nat.add_sub_cancel,zAf (zBd _)];simpa using h)
    have hyn:(n::y).length=y.length+1:=rfl;have hb1:u.length<=1000000:=by omega
    have hb2:y.length<=1000000:=by omega
    by_cases h1:o.kind=2
    ·by_cases h2:n.kind=2
     ·simp(disch:=omega) [-zAa,hg,h1,h2]
      refine ac di rfl fun _=>?_;simp(disch:=omega) [-zAa]
     ·have hP:=rest (fun h=>h2 h.2)
      simp(disch:=omega) [-zAa,hg,h1,h2];refine ac (by simpa[h1]using hxt) rfl fun _=>?_
      simp(disch:=omega) [-zAa];refine ac (by simpa[h1]using hyt) rfl fun _=>?_
      simp(disch:=omega) [-zAa];refine aq (by simpa[h1]using hP) (by simp) fun _=>?_
      simp(disch:=omega) [-zAa];refine ac (by simpa[h1]using hse) rfl fun _=>?_
      simp(disch:=omega) [-zAa];refine ac di rfl fun _=>?_;simp(disch:=omega) [-zAa]
    ·have hP:=rest (fun h=>h1 h.1)
     simp(disch:=omega) [-zAa,hg,h1];refine ac (by simpa[h1]using hxt) rfl fun _=>?_
     simp(disch:=omega) [-zAa];refine ac (by simpa[h1]using hyt) rfl fun _=>?_
     simp(disch:=omega) [-zAa];refine aq (by simpa[h1]using hP) (by simp) fun _=>?_
     simp(disch:=omega) [-zAa];refine ac (by simpa[h1]using hse) rfl fun _=>?_
     simp(disch:=omega) [-zAa];refine ac di rfl fun _=>?_;simp(disch:=omega) [-zAa]
end Go.Abs.F
end
