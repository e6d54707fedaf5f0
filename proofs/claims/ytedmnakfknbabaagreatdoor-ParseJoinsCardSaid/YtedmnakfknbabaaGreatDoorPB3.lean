/- utf. No condition. -/
import Derived.Test.YtedmnakfknbabaaGreatDoorPB0
import Derived.Test.YtedmnakfknbabaaGreatDoorPP2
import Derived.Test.YtedmnakfknbabaaGreatDoorPQ2
import Derived.Test.YtedmnakfknbabaaGreatDoorPCodeR
set_option linter.all false
set_option maxHeartbeats 0
open List renaming reduceReplicate→zAa
section
set_option maxRecDepth 100000
namespace Go.Abs.F
open Go.Proofs Go.RowKit
attribute [-simp] getElem?_pos Option.not_isSome List.map_map
attribute [local simp] sbP
theorem Lf(a b:List Nat):aX (a++b)=aX a++aX b:=by simp[aX]
theorem pp(r:Nat):aX [r]=aw r:=by simp[aX]
theorem Hj(s:Str)(hs:s.length<=1000000000):Fn Tryz.prog FT [.seq 1 (s.map bV)] (.str (bg s)):=by
 refine FnE.fn ?_;refine FnE.of_imageQ mixed GH Gl rfl fun ho=>?_;unfold vU;clear ho;simp(disch:=omega) [-zAa];unfold bg;generalize hw:aX (eW none (b9 s))=w
 refine ay (fun(q:Nat×Str×Option Nat×V)=>⟨[(3,.q 0 1 0 0 0),(4,.bool (decide (q.2.2.1=some 13))),(9,.ref 1 0)],[some (.pool [.byt 5 q.2.1,.bx 99 [q.2.2.2,.q 1 0 q.2.1.length 0 0]]),some (.itr s q.1)]⟩)
  (fun q=>q.1<=s.length/\q.2.1.length<=4*q.1/\sbA q.2.2.2/\q.2.1++aX (eW q.2.2.1 (b9 (s.drop q.1)))=w) (fun q=>s.length-q.1) [] _ (0,[],none,.nilptr) rfl (by simp) (by simp[hw,xc]) ?_
 rintro⟨k,out,p,a⟩ ⟨hk,hol,ha,hi⟩ N hN;simp only at hk hol ha hi;by_cases hlt:k<s.length
 ·have hdo:=oP s k hlt
  obtain⟨b,t,hd⟩:∃b t,s.drop k=b::t:=by
   cases hd:s.drop k with
   |nil=>have:=congrArg List.length hd;simp at this;omega
   |cons b t=>exact⟨b,t,rfl⟩
  rw[hd]at hdo hi;rw[eC,<-hdo,<-hd,List.drop_drop]at hi;have hor:=cR (b::t);have hlen:=hor.2.2.1 (by simp)
  rw[<-hdo]at hor hlen;have hlen2:(b::t).length=s.length-k:=by rw[<-hd];simp
  clear hdo;obtain⟨x,n,hx,hn⟩:∃x n,x=(oQ s k).1/\n=(oQ s k).2:=⟨_,_,rfl,rfl⟩;rw[<-hx,<-hn]at hi hor;rw[<-hn]at hlen;simp only[eW]at hi;have hxr:=hor.2.2.2.1;rw[Lf,<-List.append_assoc]at hi;have hb4:=fun r=>eO r
  have fin:∀(τ:St)(e:Str)(a':V),τ.nrm [3,4,9]=⟨[(3,.q 0 1 0 0 0),(4,.bool (decide (some x=some 13))),(9,.ref 1 0)],[some (.pool [.byt 5 (out++e),.bx 99 [a',.q 1 0 (out++e).length 0 0]]),some (.itr s (k+n))]⟩->sbA a'->e.length<=4->(out++e)++aX (eW (some x) (b9 (s.drop (k+n))))=w->N τ:=by
   intro τ e a' h1 h2 h3 h4;exact hN.out _<|Nx.mk (k+n,out++e,some x,a') h1 ⟨by simp only;omega,by simp only[List.length_append];omega,h2,h4⟩ (by simp only;omega)
  replace hi:=hid hi;have hb10:aw 10=[10]:=by decide
  have hb65:(aw 65533).length<=4:=eO _;simp(disch:=omega) [-zAa,hlt,<-hx,<-hn];by_cases h10:x=10
  ·by_cases hp:p=some 13
   ·have hi:=hi.out
    rw[if_pos ⟨h10,hp⟩]at hi;simp(disch:=omega) [-zAa,h10,hp];exact fin _ [] a (by simp[h10]) ha (by simp) (by simpa[aX]using hi)
   ·have hi:=hi.out
    rw[if_neg (by simp[hp])]at hi
    rw[if_neg (by omega),if_neg (by omega),pp]at hi
    simp(disch:=omega) [-zAa,h10,hp];refine ah [] 1 [0] (by simp) (by simp) (by simp[rV]) (by simp) (ly (a:=a) (s:=out) 10 (by omega) ha (by omega)) (by simp) fun _ _=>?_
    simp(disch:=omega) [-zAa,h10];exact fin _ (aw 10) _ (by simp[h10]) dS (hb4 _) (by rw[h10]at hi⊢;exact hi)
  ·have hi:=hi.out
   rw[if_neg (by simp[h10])]at hi
   by_cases h13:x=13
   ·rw[if_pos h13,pp]at hi
    simp(disch:=omega) [-zAa,h10,h13];refine ah [] 1 [0] (by simp) (by simp) (by simp[bV]) (by simp) (oI (a:=a) (s:=out) 10 ha (by omega)) (by simp) fun _ _=>?_
    simp(disch:=omega) [-zAa,h13];exact fin _ [10] _ (by simp[h13]) dS (by simp) (by rw[<-hb10];exact hi)
   ·rw[if_neg h13]at hi
    by_cases h0:x=0
    ·rw[if_pos h0,pp]at hi
     simp(disch:=omega) [-zAa,h10,h13,h0];refine ah [] 1 [0] (by simp) (by simp) (by simp[rV]) (by simp) (ly (a:=a) (s:=out) 65533 (by omega) ha (by omega)) (by simp) fun _ _=>?_
     simp(disch:=omega) [-zAa,h0];exact fin _ (aw 65533) _ (by simp[h0]) dS (hb4 _) hi
    ·rw[if_neg h0,pp]at hi
     simp(disch:=omega) [-zAa,h10,h13,h0];refine ah [] 1 [0] (by simp) (by simp) (by simp[rV]) (by simp) (ly (a:=a) (s:=out) x (by omega) ha (by omega)) (by simp) fun _ _=>?_
     simp(disch:=omega) [-zAa,h13];exact fin _ (aw x) _ (by simp[h13]) dS (hb4 _) hi
 ·have hkl:k=s.length:=by omega
  subst hkl;simp[b9,d8,eW,aX]at hi;subst hi;simp(disch:=omega) [-zAa];refine ah [] 1 [0] (by simp) (by simp) (by simp) (by simp) (th (a:=a) (s:=out)) (by simp) fun _ _=>?_
  simp(disch:=omega) [-zAa];exact⟨_,1,_,rfl,rfl,rfl⟩
structure Small (s:Str):Prop where
 len:s.length<=1000000
 toks:(aO s).length<=1000000
 each:∀t∈aO s,t.text.length<=10000000/\t.attrs.length<=1000000000
 cnt:aj (cN (aO s))<=100000000
theorem EB(b:Str)(hb:b.length<=1000000000):Fn Tryz.prog rf [.seq 1 (b.map bV)] (.iface 63 (.str (bg b))):=by
 refine Fn.of_image mixed rB rq rfl fun ho=>?_;unfold kJ;simp only[oks,ok,and_true]at ho;clear ho;simp(disch:=omega) [-zAa,-i9];refine ac (Hj b hb) rfl fun _=>?_;simp(disch:=omega) [-zAa]
theorem Et(s:Str)(hs:s.length<=1000000):Fn Tryz.prog re [.str s] (.iface 238 (.seq 4 ((aO s).map Tok.v))):=by
 refine Fn.of_image mixed rA rp rfl fun ho=>?_;unfold kI;simp only[oks,ok,and_true]at ho;clear ho;simp(disch:=omega) [-zAa];refine aq (yV s hs) (by simp) fun _=>?_
 simp(disch:=omega) [-zAa]
theorem AX(ts:List Tok)(hl:ts.length<=1000000)(ht:∀t∈ts,t.text.length<=10000000/\t.attrs.length<=1000000000)(hc:aj (cN ts)<=100000000):Fn Tryz.prog pP [.seq 4 (ts.map Tok.v)] (.iface 109 (.seq 5 ((cN ts).map Node.v))):=by
 refine Fn.of_image mixed p4 pV rfl fun ho=>?_;unfold jD;simp only[oks,ok,and_true]at ho;clear ho;simp(disch:=omega) [-zAa];refine aq (EE ts hl ht hc) (by simp) fun _=>?_
 simp(disch:=omega) [-zAa]
def j0(b s:Str):Nat->V
 |0=>.iface 61 (.seq 1 (b.map bV))
 |1=>.iface 63 (.str s)
 |2=>.iface 238 (.seq 4 ((aO s).map Tok.v))
 |_=>.iface 109 (.seq 5 ((cN (aO s)).map Node.v))
theorem Fk(b s:Str)(k:Nat)(hk:k<=3)(hb:k=0->b.length<=1000000000/\s=bg b)(hs:Small s):Fn Tryz.prog F1 [j0 b s k] (.seq 5 ((cN (aO s)).map Node.v)):=by
 refine Fn.of_image mixed GV Gy rfl fun ho=>?_;unfold wd;simp only[oks,ok,and_true]at ho;clear ho;simp(disch:=omega) [-zAa]
 refine ay (fun(j:Nat)=>⟨[(0,j0 b s j)],[]⟩) (fun j=>j<=3/\(j=0->b.length<=1000000000/\s=bg b)) (fun j=>3-j) [] _ k rfl (by
  match k,hk with
  |0,_=>simp[j0,-i9]
  |1,_=>simp[j0]
  |2,_=>simp[j0]
  |3,_=>simp[j0]) ⟨hk,hb⟩ ?_
 rintro j ⟨hj,hjb⟩ N hN
 match j,hj,hjb with
 |0,_,hjb=>
   obtain⟨h1,h2⟩:=hjb rfl;simp(disch:=omega) [-zAa,j0,-i9];refine ac (EB b h1) rfl fun _=>?_;simp(disch:=omega) [-zAa];exact hN.out _<|Nx.mk 1 (by simp[j0,h2]) ⟨by omega,fun h=>by omega⟩ (by omega)
 |1,_,_=>
   simp(disch:=omega) [-zAa,j0];refine aq (Et s hs.len) (by simp) fun _=>?_
   simp(disch:=omega) [-zAa];exact hN.out _<|Nx.mk 2 (by simp[j0]) ⟨by omega,fun h=>by omega⟩ (by omega)
 |2,_,_=>
   simp(disch:=omega) [-zAa,j0];refine aq (AX (aO s) hs.toks hs.each hs.cnt) (by simp) fun _=>?_
   simp(disch:=omega) [-zAa];exact hN.out _<|Nx.mk 3 (by simp[j0]) ⟨by omega,fun h=>by omega⟩ (by omega)
 |3,_,_=>
   simp(disch:=omega) [-zAa,j0]
theorem qq(b:Str)(hb:b.length<=1000000000)(hs:Small (bg b)):Fn Tryz.prog qh [.seq 1 (b.map bV)] (.seq 5 ((cN (aO (bg b))).map Node.v)):=by
 have hr:=Fk b (bg b) 0 (by omega) (fun _=>⟨hb,rfl⟩) hs
 simp only[j0]at hr;refine Fn.of_image mixed AR Av rfl fun ho=>?_;unfold qH;simp only[oks,ok,and_true]at ho;clear ho;simp(disch:=omega) [-zAa,-i9];refine aq hr (by simp[-i9]) fun _=>?_
 simp(disch:=omega) [-zAa]
theorem tf(s:Str)(hs:Small s):Fn Tryz.prog mQ [.str s] (.seq 5 ((cN (aO s)).map Node.v)):=by
 have hr:=Fk [] s 1 (by omega) (fun h=>by omega) hs
 simp only[j0]at hr;refine Fn.of_image mixed Ef DT rfl fun ho=>?_;unfold tR;simp only[oks,ok,and_true]at ho;clear ho;simp(disch:=omega) [-zAa];refine aq hr (by simp) fun _=>?_
 simp(disch:=omega) [-zAa]
end Go.Abs.F
end
