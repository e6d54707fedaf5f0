/- write. No condition. -/
import Derived.Test.YtedmnakfknbabaaGreatDoorPP3
import Derived.Test.YtedmnakfknbabaaGreatDoorPQ2
import Derived.Test.YtedmnakfknbabaaGreatDoorPCodeR
set_option linter.all false
set_option maxHeartbeats 0
open List renaming reduceReplicate→zAa,length_append→zAb,length_cons→zAc,length_nil→zAd,length→zAe
set_option maxRecDepth 100000
namespace Go.Abs.F
open Go.Proofs Go.RowKit
attribute [-simp] getElem?_pos Option.not_isSome List.map_map
abbrev LA:V:=.fn (.func od) [] [.q 0 1 0 0 0]
abbrev sbH(a:V)(s:Str):List (Option Ob):=[some (.pool [.byt 5 s,.bx 99 [a,.q 1 0 s.length 0 0]])]
theorem i6{a:V}(s t:Str)(ha:sbA a)(hl:s.length+t.length<=1000000000):FnH Tryz.prog od [] [.str t,.q 0 1 0 0 0] (sbH a s) (.tup []) (sbH (.q 0 1 0 0 0) (s++t)):=by
 have hw:=dj (s:=s) (t:=t) ha (by omega)
 unfold sbP at hw;refine FnH.of_image mixed yz yl rfl fun ho hh=>?_;unfold oV;clear ho hh;simp(disch:=omega) [-zAa];refine ah [] 1 [0] (by simp) (by simp) (by simp) (by simp) hw (by simp) fun _ _=>?_
 simp(disch:=omega) [-zAa]
theorem SA(v:Bool)(c:UInt8):1<=(p7 v c).length:=List.length_pos_iff.2 (KD v c)
theorem EG(v:Bool):∀s:Str,s.length<=(bN v s).length
 |[]=>by simp
 |c::s=>by
   have:=EG v s;have:=SA v c;simp only[bN,zAc,zAb];omega
theorem ql(n:Node)(hk:n.kind=1){a:V}(s:Str)(ha:sbA a)(hl:s.length+(bL n.name n.attrs).length<=1000000000):
 FnH Tryz.prog zM [] [.sptr n.v 0,LA] (sbH a s) (.tup []) (sbH (.q 0 1 0 0 0) (s++bL n.name n.attrs)):=by
 have e0:s++bL n.name n.attrs=s++[60]++n.name++(aW n.attrs++[62]):=by simp[bL]
 have hl0:s.length+1+n.name.length+(aW n.attrs).length+1<=1000000000:=by
  have:=congrArg zAe e0;simp only[zAb,zAc,zAd]at this hl;omega
 have hal:=rZ n.attrs;rw[e0];refine FnH.of_image mixed AA Ag rfl fun ho hh=>?_;unfold qu;clear ho hh;simp(disch:=omega) [-zAa,hk];refine ah [] 1 [0] (by simp) (by simp) (by simp) (by simp) (i6 s [60] ha (by simp;omega)) (by simp) fun _ _=>?_
 simp(disch:=omega) [-zAa];refine ah [] 1 [0] (by simp) (by simp) (by simp) (by simp) (i6 (s++[60]) n.name dS (by simp;omega)) (by simp) fun _ _=>?_
 simp(disch:=omega) [-zAa];generalize hw:s++[60]++n.name++(aW n.attrs++[62])=w
 refine ay (fun(q:Nat×Str)=>⟨[(1,LA),(22,.seq 2 (n.attrs.map Attr.v)),(23,.int .i64 n.attrs.length),(24,.int .i64 q.1)],[some (.pool [.byt 5 q.2,.bx 99 [.q 0 1 0 0 0,.q 1 0 q.2.length 0 0]])]⟩)
  (fun q=>q.1<=n.attrs.length/\q.2++(aW (n.attrs.drop q.1)++[62])=w) (fun q=>n.attrs.length-q.1) [] _ (0,s++[60]++n.name) rfl (by simp) ⟨Nat.zero_le _,hw⟩ ?_
 rintro⟨k,out⟩ ⟨hk2,hi⟩ N hN;simp only at hk2 hi
 have hwl:w.length<=1000000000:=by
  rw[<-hw];simp only[zAb,zAc,zAd];omega
 have hol:out.length+(aW (n.attrs.drop k)).length+1<=1000000000:=by
  have:=congrArg zAe hi;simp only[zAb,zAc,zAd]at this;omega
 rcases place n.attrs k hk2 with⟨he,hd⟩|⟨hlt,x,hx,hd⟩<;>rw[hd]at hi hol
 ·simp only[aW,List.nil_append]at hi
  simp(disch:=omega) [-zAa,he];refine ah [] 1 [0] (by simp) (by simp) (by simp) (by simp) (i6 out [62] dS (by simp;omega)) (by simp) fun _ _=>?_
  subst hi;have hw':out++[62]=s++60::(n.name++(aW n.attrs++[62])):=by simpa using hw.symm
  simp(disch:=omega) [-zAa];refine⟨hw',?_⟩;have:=congrArg zAe hw';simp only[zAb,zAc,zAd]at this;omega
 ·simp only[aW,zAc,zAb]at hi hol
  have hge:=EG true x.value;simp(disch:=omega) [-zAa,hx,hlt];refine ah [] 1 [0] (by simp) (by simp) (by simp) (by simp) (i6 out [32] dS (by simp;omega)) (by simp) fun _ _=>?_
  simp(disch:=omega) [-zAa];refine ah [] 1 [0] (by simp) (by simp) (by simp) (by simp) (i6 (out++[32]) x.name dS (by simp;omega)) (by simp) fun _ _=>?_
  simp(disch:=omega) [-zAa];refine ah [] 1 [0] (by simp) (by simp) (by simp) (by simp) (i6 (out++[32]++x.name) [61,34] dS (by simp;omega)) (by simp) fun _ _=>?_
  simp(disch:=omega) [-zAa];refine ac (lL x.value true (by omega)) rfl fun _=>?_
  simp(disch:=omega) [-zAa];refine ah [] 1 [0] (by simp) (by simp) (by simp) (by simp) (i6 (out++[32]++x.name++[61,34]) (bN true x.value) dS (by simp;omega)) (by simp) fun _ _=>?_
  simp(disch:=omega) [-zAa];refine ah [] 1 [0] (by simp) (by simp) (by simp) (by simp) (i6 (out++[32]++x.name++[61,34]++bN true x.value) [34] dS (by simp;omega)) (by simp) fun _ _=>?_
  simp(disch:=omega) [-zAa];exact hN.out _<|Nx.mk (k+1,out++[32]++x.name++[61,34]++bN true x.value++[34]) (by simp) ⟨by simp only;omega,by rw[<-hi];simp⟩ (by simp only;omega)
theorem Hh(n:Node)(hk:n.kind=1)(hv:ew n.name=false){a:V}(s:Str)(ha:sbA a)(hl:s.length+(aJ n.name).length<=1000000000):
 FnH Tryz.prog FQ [] [.sptr n.v 0,LA] (sbH a s) (.tup []) (sbH (.q 0 1 0 0 0) (s++aJ n.name)):=by
 have e0:s++aJ n.name=s++[60,47]++n.name++[62]:=by simp[aJ]
 have hl0:s.length+2+n.name.length+1<=1000000000:=by
  have:=congrArg zAe e0;simp only[zAb,zAc,zAd]at this hl;omega
 rw[e0];refine FnH.of_image mixed GF Gj rfl fun ho hh=>?_;unfold vS;clear ho hh;simp(disch:=omega) [-zAa,hk];refine ac (iz n.name) rfl fun _=>?_;simp(disch:=omega) [-zAa,hv];refine ah [] 1 [0] (by simp) (by simp) (by simp) (by simp) (i6 s [60,47] ha (by simp;omega)) (by simp) fun _ _=>?_
 simp(disch:=omega) [-zAa];refine ah [] 1 [0] (by simp) (by simp) (by simp) (by simp) (i6 (s++[60,47]) n.name dS (by simp;omega)) (by simp) fun _ _=>?_
 simp(disch:=omega) [-zAa];refine ah [] 1 [0] (by simp) (by simp) (by simp) (by simp) (i6 (s++[60,47]++n.name) [62] dS (by simp;omega)) (by simp) fun _ _=>?_
 simp(disch:=omega) [-zAa]
end Go.Abs.F
