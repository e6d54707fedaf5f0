/- What strainerref03's Same, Weight, All and strainerref04's Plain answer. No condition. -/
import Derived.Test.YtnnbodoijkbceaaGreatDoorJP2
import Derived.Test.YtnnbodoijkbceaaGreatDoorJCodeR
import Derived.Test.YtnnbodoijkbceaaGreatDoorJCodeU
set_option linter.all false
set_option maxHeartbeats 0
set_option maxRecDepth 100000
open List renaming reduceReplicate→zAa,getElem?_eq_some_iff→zAb,getElem?_append_left→zAc,getElem?_set_ne→zAd,getElem?_concat_length→zAe,getElem?_set_self→zAf,replicate→zAg,map_map→zAi
open Option renaming not_isSome→zAh
section
namespace Go.Abs.F
open Go.Proofs
attribute [-simp] getElem?_pos zAh zAi
theorem Sl(a b a' b':Str):eqK (.strct [.str a,.str b]) (.strct [.str a',.str b'])=(decide (a=a')&&decide (b=b')):=by
 simp[eqK,cl,vT,eqC]
theorem LM(a b:Str):a8 ⟨true,[.s,.s]⟩ (.strct [.str a,.str b])=true:=by
 simp[a8,gk,cl,bI,kOf,aQ]
def gg(n:Node):Prop:=n.attrs.length<=1000000/\n.kids.length<=1000000
theorem eE{α:Type}{l:List α}{k:Nat}{x:α}(h:l[k]?=some x):l.drop k=x::l.drop (k+1):=by
 obtain⟨h1,e⟩:=zAb.1 h;rw[List.drop_eq_getElem_cons h1,e]
end Go.Abs.F
end
section
namespace Go.Abs.F
open Go.Proofs Go.RowKit
attribute [-simp] getElem?_pos zAh zAi
def jmT(J:List Jb):Nat:=(J.map fun q=>1+aj q.sp).sum
theorem ci(a b:List Jb):jmT (a++b)=jmT a+jmT b:=by simp[jmT]
theorem eB(q:Jb):jmT [q]=1+aj q.sp:=by simp[jmT]
theorem tX:∀J:List Jb,J.length<=jmT J
 |[]=>by simp[jmT]
 |q::J=>by
   have:=tX J;simp only[jmT,List.map_cons,List.sum_cons,List.length_cons]at *;omega
theorem sY(n:Node):j6 n=1+aj n.kids:=by cases n;simp[j6]
def n5:V:=.strct [.int .i64 0,.str [],.seq 2 [],.str [],.seq 5 []]
theorem JP(l:List Node)(hf:an gg l)(hc:aj l<=1000000):Fn Tryz.prog IA [.seq 5 (l.map Node.v)] (.seq 5 (l.map Node.v)):=by
 refine FnE.fn ?_;refine FnE.of_imageQ mixed I4.1 I4.2 rfl fun ho=>?_;clear ho;simp(disch:=omega) [-zAa]
 refine au (fun(q:List Po×Nat×List Jb)=>⟨[(3,.q 0 0 0 0 0),(4,.q 1 q.2.1 q.2.2.length 0 0)],[some (.pool q.1)]⟩)
  (fun q=>(∃S,TI (fun p=>p.ag=[.seq 5 (p.sp.map Node.v)]/\an gg p.sp) (fun _ v=>v=n5) 41 176 2 0 l S 0 0 [] q.1 q.2.1 q.2.2)/\jmT q.2.2<=1+aj l) (fun q=>jmT q.2.2) [] _ ([.bx 0 [.nil 5],.rw 176 2 [Jb.v 0 ⟨l,[.seq 5 (l.map Node.v)],none⟩]],1,[⟨l,[.seq 5 (l.map Node.v)],none⟩]) rfl (by simp[Jb.v,Jb.tv])
  ⟨⟨_,TI.start ⟨rfl,hf⟩ rfl rfl (by simp) rfl rfl⟩,by simp[eB]⟩ ?_
 rintro⟨ms,jw,J⟩ ⟨⟨S,hn⟩,hjm⟩ N hN;simp only at hn hjm;have hwt:=hn.wait;rcases List.eq_nil_or_concat J with rfl|⟨J0,q,rfl⟩
 ·obtain⟨v,F,hv,hF⟩:=hn.read
  simp only[List.map_nil]at hwt;have hv2:=hn.var;obtain⟨v',hv',hg⟩:=hv2;rw[hv]at hv';cases hv';rcases hg with⟨rfl|rfl,_⟩|⟨j',rfl,_⟩
  all_goals
   simp(disch:=omega) [-zAa,hwt,hv];exact⟨_,F,[.seq 5 (l.map Node.v)],rfl,by simp[fY,hF],rfl⟩
 ·rw[List.concat_eq_append]at *
  have hpop:=hn.pop;obtain⟨⟨hag,hfew⟩,_,_⟩:=hn.jobs q (by simp)
  have hJm:(J0.map (Jb.v 0)).length=J0.length:=by simp
  have hJl:=tX (J0++[q]);rw[ci,eB]at hjm hJl
  obtain⟨a,tj,tn,ti,tt,hT⟩:∃a j n i o,q.tv 0=.q a j n i o:=by
   unfold Jb.tv;split
   ·exact⟨_,_,_,_,_,rfl⟩
   ·exact⟨_,_,_,_,_,rfl⟩
  have hqv:Jb.v 0 q=.strct [.seq 5 (q.sp.map Node.v),.q a tj tn ti tt]:=by simp[Jb.v,hag,hT]
  have hwt':ms[jw]?=some (.rw 176 2 (J0.map (Jb.v 0)++[.strct [.seq 5 (q.sp.map Node.v),.q a tj tn ti tt]])):=by rw[hwt];simp[hqv]
  have hql:(J0.map (Jb.v 0)++[V.strct [.seq 5 (q.sp.map Node.v),.q a tj tn ti tt]])[J0.length]?=some (.strct [.seq 5 (q.sp.map Node.v),.q a tj tn ti tt]):=by
   rw[<-hJm];exact zAe ..
  have hqt:(J0.map (Jb.v 0)++[V.strct [.seq 5 (q.sp.map Node.v),.q a tj tn ti tt]]).take J0.length=J0.map (Jb.v 0):=by rw[<-hJm,List.take_left]
  have hJl2:J0.length+1<=1000001:=by simp at hJl;omega
  simp(disch:=omega) [-zAa,hwt',hql,hJm,hqt];refine BrK.mk (fun he=>?_) (fun he=>?_)
  ·have he:q.sp=[]:=by simpa using he
   simp(disch:=omega) [-zAa];exact hN.out _<|Nx.mk (ms.set jw .no++[.rw 176 2 (J0.map (Jb.v 0))],ms.length,J0) (by simp) ⟨⟨S,hpop.skip he⟩,by simp only;omega⟩ (by simp only[ci,eB];omega)
  ·have he:q.sp≠[]:=by simpa using he
   have hcs:q.sp.length<=aj q.sp:=dS q.sp;have hml:(ms.set jw Po.no++[Po.rw 176 2 (J0.map (Jb.v 0))]).length=ms.length+1:=by simp
   generalize hM0:ms.set jw Po.no++[Po.rw 176 2 (J0.map (Jb.v 0))]=m0 at *
   have hrow:TI (fun p=>p.ag=[.seq 5 (p.sp.map Node.v)]/\an gg p.sp) (fun _ v=>v=n5) 41 176 2 0 l (vm S (ms.length+1) q.sp) (ms.length+1) 0 [q] (m0++[.rw 41 5 (zAg q.sp.length n5)]) ms.length J0:=by
    have h1:=hpop.ext (ms':=m0++[.rw 41 5 (zAg q.sp.length n5)]) (by simp) (fun j p hj _=>by rw[zAc (zAb.1 hj).1];exact hj)
    have hn0:S (ms.length+1)=none:=by
     cases hs:S (ms.length+1)with
     |none=>rfl
     |some L=>have:=(hpop.dom _ _ hs).1;omega
    refine h1.row (el:=zAg q.sp.length n5) hn0 (by omega) (by omega) ?_ (by simp) fun i m hm=>⟨n5,?_,rfl⟩
    ·rw[<-hml];exact zAe ..
    ·rw[List.getElem?_replicate,if_pos (zAb.1 hm).1]
   have hS1:vm S (ms.length+1) q.sp (ms.length+1)=some q.sp:=vl ..;generalize vm S (ms.length+1) q.sp=S1 at *;simp(disch:=omega) [-zAa,hml]
   refine au (fun(x:Nat×List Po×List Jb)=>⟨[(3,.q 0 0 0 0 0),(4,.q 1 ms.length x.2.2.length 0 0),(5,.ptr 1 0),(6,.q 1 (ms.length+1) q.sp.length 0 0),(35,.seq 5 (q.sp.map Node.v)),(36,.int .i64 q.sp.length),(37,.int .i64 x.1)],
    [some (.pool x.2.1),some (.box [.seq 5 (q.sp.map Node.v),.q a tj tn ti tt])]⟩)
    (fun x=>x.1<=q.sp.length/\TI (fun p=>p.ag=[.seq 5 (p.sp.map Node.v)]/\an gg p.sp) (fun _ v=>v=n5) 41 176 2 0 l S1 (ms.length+1) x.1 [q] x.2.1 ms.length x.2.2/\jmT x.2.2+aj (q.sp.drop x.1)<=jmT J0+aj q.sp) (fun x=>q.sp.length-x.1) [] _ (0,m0++[.rw 41 5 (zAg q.sp.length n5)],J0) rfl (by simp[n5]) ⟨Nat.zero_le _,hrow,by simp⟩ ?_
   rintro⟨k,mk,Jk⟩ ⟨hk,hti,hjk⟩ N2 hN2;simp only at hk hti hjk;have hw2:=hti.wait;obtain⟨el,he1,he2,he3⟩:=hti.rows _ _ hS1;have hlen2:=(hti.dom _ _ hS1).1;have hJkl:=tX Jk;rcases place q.sp k hk with⟨hke,hd⟩|⟨hlt,m,hm,hd⟩<;>rw[hd]at hjk
   ·subst hke
    have hfull:=hti.full hS1;cases ht:q.tg with
    |none=>
      have hst:=hfull.store0 (.inr ⟨_,rfl,hS1⟩) ht;have e:V.q a tj tn ti tt=.q 0 0 0 0 0:=by rw[<-hT];simp[Jb.tv,ht]
      cases e;obtain⟨v,hv,_⟩:=hti.var;simp(disch:=omega) [-zAa,hv];exact hN.out _<|Nx.mk (mk.set 0 (.bx 0 [.q 1 (ms.length+1) q.sp.length 0 0]),ms.length,Jk) (by simp) ⟨⟨S1,hst⟩,by simp only[aj]at hjk⊢;omega⟩ (by simp only[ci,eB,aj]at hjk⊢;omega)
    |some tg=>
      obtain⟨j,n,i⟩:=tg;obtain⟨e2,m2,kc,g1,g2,g3,g4⟩:=hfull.store1 (.inr ⟨_,rfl,hS1⟩) ht;have e:V.q a tj tn ti tt=.q 2 j n i 4:=by rw[<-hT];simp[Jb.tv,ht]
      cases e;subst g2;simp only[ee]at g3 g4;have hil:=(zAb.1 g3).1;simp(disch:=omega) [-zAa,g1,g3];exact hN.out _<|Nx.mk (_,ms.length,Jk) (by simp) ⟨⟨S1,g4⟩,by simp only[aj]at hjk⊢;omega⟩ (by simp only[ci,eB,aj]at hjk⊢;omega)
   ·obtain⟨hmf,hmk⟩:=aP.1 hfew m (List.mem_of_getElem? hm)
    simp only[aj,sY]at hjk;have w1:∀x,(mk++[x])[ms.length]?=some (.rw 176 2 (Jk.map (Jb.v 0))):=fun x=>by rw[zAc (by omega)];exact hw2
    have w2:∀x:Po,(mk++[x])[mk.length]?=some x:=fun x=>zAe ..;have w4:∀x y:Po,(mk++[x]).set ms.length y=mk.set ms.length y++[x]:=fun x y=>List.set_append_left _ _ (by omega)
    have w3:∀x y:Po,(mk.set ms.length y++[x])[ms.length+1]?=some (.rw 41 5 el):=fun x y=>by rw[zAc (by rw[List.length_set];omega),zAd (by omega)];exact he1
    have hJml:(Jk.map (Jb.v 0)).length=Jk.length:=by simp
    obtain⟨v0,hv0⟩:=bq (l:=el) (k:=k) (by omega)
    have hv0z:v0=n5:=by
     rcases he3 k m hm with⟨_,v,h1,h2⟩|⟨h1,_⟩
     ·rw[hv0]at h1;cases h1;exact h2
     ·exact(h1 ⟨rfl,Nat.le_refl _⟩).elim
    subst hv0z;simp only[n5]at hv0;have hkl:k<q.sp.length:=hlt;have hcell:V.strct [.int .i64 m.kind,.str m.name,.seq 2 (m.attrs.map Attr.v),.str m.text,.nil 5]=ee m (.nil 5):=rfl;have hjob:V.strct [.seq 5 (m.kids.map Node.v),.q 2 (ms.length+1) q.sp.length k 4]=Jb.v 0 ⟨m.kids,[.seq 5 (m.kids.map Node.v)],some (ms.length+1,q.sp.length,k)⟩:=rfl;have hma:=hmf.1
    have nx:=hti.next (ms':=((mk++[Po.rw 176 2 [Jb.v 0 ⟨m.kids,[.seq 5 (m.kids.map Node.v)],some (ms.length+1,q.sp.length,k)⟩]]).set ms.length (.rw 176 2 (Jk.map (Jb.v 0)++[Jb.v 0 ⟨m.kids,[.seq 5 (m.kids.map Node.v)],some (ms.length+1,q.sp.length,k)⟩]))).set (ms.length+1) (.rw 41 5 (el.set k (ee m (.nil 5)))))
     (el':=el.set k (ee m (.nil 5))) (J':=Jk++[⟨m.kids,[.seq 5 (m.kids.map Node.v)],some (ms.length+1,q.sp.length,k)⟩]) hS1 hm he1 (by simp) (by rw[zAf (by simp;omega)]) (by simp) (.inl rfl) (by rw[zAf (by omega)])
     (fun i hi=>by rw[zAd (Ne.symm hi)]) (by rw[zAd (by omega),zAf (by simp;omega)];simp)
     (fun j p hj hne ho=>by
       have hlt:=(zAb.1 hj).1
       have hne2:j≠ms.length:=by
        rcases ho with rfl|⟨L,hL⟩
        ·exact hti.jo0.2
        ·exact(hti.dom j L hL).2.2
       rw[zAd (Ne.symm hne),zAd (Ne.symm hne2),zAc hlt];exact hj)
     (.inr ⟨_,⟨rfl,hmk⟩,rfl⟩)
    obtain⟨mk2,hmk2⟩:∃x,x=((mk++[Po.rw 176 2 [Jb.v 0 ⟨m.kids,[.seq 5 (m.kids.map Node.v)],some (ms.length+1,q.sp.length,k)⟩]]).set ms.length (.rw 176 2 (Jk.map (Jb.v 0)++[Jb.v 0 ⟨m.kids,[.seq 5 (m.kids.map Node.v)],some (ms.length+1,q.sp.length,k)⟩]))).set (ms.length+1) (.rw 41 5 (el.set k (ee m (.nil 5)))):=⟨_,rfl⟩;rw[<-hmk2]at nx;simp(disch:=omega) [-zAa,hm,he1,w1,w2,w3,hJml,he2,hv0,hkl];exact hN2.out _<|Nx.mk (k+1,mk2,Jk++[⟨m.kids,[.seq 5 (m.kids.map Node.v)],some (ms.length+1,q.sp.length,k)⟩]) (by subst hmk2;simp[hJml,Jb.v,Jb.tv,ee,w4]) ⟨by simp only;omega,nx,by simp only[ci,eB];omega⟩ (by simp only;omega)
end Go.Abs.F
end
