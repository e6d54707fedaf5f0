/-
  Match of package regex. No condition.
  LangAllows' function answers true. No condition.
  What the program's functions for attributes that are allowed answer. No condition.
  What allow.Kept, clean's held, sift and cleaned answer. No condition.
  What clean's sift and cleaned answer. No condition.
  What clean.Nodes answers; clean.Text at the example. No condition.
  clean.Text at the example's texts; lives. No condition.
  What strainerref03's All and Weight, strainerref04's Plain and strainerlaw16's within answer. No condition.
  CleanPlain's function answers true. No condition.
-/
import Derived.Test.YtnnbodoijkbceaaGreatDoorLR16
import Derived.Test.YtnnbodoijkbceaaGreatDoorLW9
import Derived.Test.YtnnbodoijkbceaaGreatDoorLP2
import Derived.Test.YtnnbodoijkbceaaGreatDoorLCodeS
import Derived.Test.YtnnbodoijkbceaaGreatDoorLB0
import Derived.Test.YtnnbodoijkbceaaGreatDoorLTh4
set_option linter.all false
set_option maxHeartbeats 0
set_option maxRecDepth 100000
section
namespace Go.Abs
open Go.Proofs Go.Aut
attribute [-simp] getElem?_pos Option.not_isSome List.map_map
end Go.Abs

end
section
namespace Go.Abs
open Go.Proofs Go.Aut
end Go.Abs

end
section
namespace Go.Abs.F
open Go.Proofs
attribute [-simp] getElem?_pos Option.not_isSome List.map_map
def qK (A:Constraint→Str→Bool) (p:Policy):Prop:=∀ e∈p.elements,∀ r∈e.rules,∀ v:Str,v.length≤1000→Fn Tryz.prog dT [r.value.v,.str v] (.bool (A r.value v))
theorem kC (A:Constraint→Str→Bool) (e:Allowed) (a:Attr) (hA:∀ r∈e.rules,Fn Tryz.prog dT [r.value.v,.str a.value] (.bool (A r.value a.value))):
 FnH Tryz.prog dV [1] [a.v,.ptr 0 0] [some (.box [.str e.name,.seq 1 (e.kids.map .str),.seq 5 (e.rules.map Rule.v)])] (.bool (rA A e a)) [some (.box [.str e.name,.seq 1 (e.kids.map .str),.seq 5 (e.rules.map Rule.v)])]:=by
 refine FnH.of_image mixed s7 sW rfl fun ho hh=>?_
 unfold kJ
 clear ho hh
 simp (disch:=omega) [-List.reduceReplicate,rA]
 refine aA (xD e a.name) (by simp) fun _=>?_
 cases hf:jt e.rules a.name with
 | none=>
   simp (disch:=omega) [-List.reduceReplicate,hf]
 | some r=>
   simp (disch:=omega) [-List.reduceReplicate,hf]
   refine ah (by simpa using hA r (yP hf).1) rfl fun _=>?_
   simp (disch:=omega) [-List.reduceReplicate]
theorem nr (e:Allowed):FnH Tryz.prog wn [] [e.v] [] (.fn (.func dV) [] [.ptr 0 0]) [some (.box [.str e.name,.seq 1 (e.kids.map .str),.seq 5 (e.rules.map Rule.v)])]:=by
 refine FnH.of_image mixed xu wV rfl fun ho hh=>?_
 unfold nR
 clear ho hh
 simp (disch:=omega) [-List.reduceReplicate]
def vO (e:Allowed):List Str:=(e.rules.filter (·.req)).map (·.name)
theorem qe (e:Allowed) (hl:e.rules.length≤1000000):Fn Tryz.prog pL [e.v] (.seq 1 ((vO e).map .str)):=by
 refine Fn.of_image mixed p5 pV rfl fun ho=>?_
 unfold iX
 simp only [oks,ok,and_true] at ho
 clear ho
 simp (disch:=omega) [-List.reduceReplicate]
 generalize hw:vO e=w
 refine aI (fun (q:Nat × List Str)=>⟨[(3,.ref 0 q.2.length),(7,.seq 5 (e.rules.map Rule.v)),(8,.int .i64 e.rules.length),(9,.int .i64 q.1)],[some (.arr bX 1 (q.2.map .str))]⟩)
  (fun q=>q.1≤e.rules.length∧q.2.length≤q.1∧q.2++((e.rules.drop q.1).filter (·.req)).map (·.name)=w) (fun q=>e.rules.length - q.1) [.r 3 bX 1] _ (0,[]) rfl (by simp) (by simp [←hw,vO]) ?_
 rintro ⟨k,out⟩ ⟨hk,hol,hi⟩ N hN
 simp only at hk hol hi
 rcases place e.rules k hk with ⟨he,hd⟩ | ⟨hlt,x,hx,hd⟩<;>rw [hd] at hi
 · simp at hi
   subst hi
   simp (disch:=omega) [-List.reduceReplicate,he]
 · simp only [List.filter_cons] at hi
   replace hi:=hid hi
   simp (disch:=omega) [-List.reduceReplicate,hx]
   refine BrK.mk (fun h=>?_) (fun h=>?_)
   · simp (disch:=omega) [-List.reduceReplicate,hx]
     have hi:=hi.out
     refine hN.out _<|Nx.mk (k + 1,out++[x.name]) (by simp) ⟨by simp only; omega,by simp; omega,?_⟩ (by simp only; omega)
     simpa [h] using hi
   · simp (disch:=omega) [-List.reduceReplicate,hx]
     have hi:=hi.out
     refine hN.out _<|Nx.mk (k + 1,out) (by simp) ⟨by simp only; omega,by simp only; omega,?_⟩ (by simp only; omega)
     simpa [h] using hi
def uI (A:Constraint→Str→Bool) (e:Allowed) (l:List Attr):Bool:=l.all (rA A e) && (vO e).all (dY l)
theorem xI (A:Constraint→Str→Bool) (e:Allowed) (l:List Attr) (hl:l.length≤1000000) (hr:e.rules.length≤1000000) (hA:∀ r∈e.rules,∀ a∈l,Fn Tryz.prog dT [r.value.v,.str a.value] (.bool (A r.value a.value))):
 Fn Tryz.prog wo [e.v,.seq 2 (l.map Attr.v)] (.bool (uI A e l)):=by
 refine Fn.of_imageE mixed xv wW rfl fun ho=>?_
 unfold nS
 simp only [oks,ok,and_true] at ho
 clear ho
 simp (disch:=omega) [-List.reduceReplicate]
 refine aS [] 0 [] (by simp) (by simp) (by simp) (by simp) (nr e) (by simp) fun _ _=>?_
 simp (disch:=omega) [-List.reduceReplicate]
 generalize hw:uI A e l=w
 refine aI (fun (k:Nat)=>⟨[(1,.seq 2 (l.map Attr.v)),(2,.ptr 0 0),(5,.fn (.func dV) [] [.ptr 1 0]),(12,.seq 2 (l.map Attr.v)),(13,.int .i64 l.length),(14,.int .i64 k)],
  [some (.box [.str e.name,.seq 1 (e.kids.map .str),.seq 5 (e.rules.map Rule.v)]),some (.box [.str e.name,.seq 1 (e.kids.map .str),.seq 5 (e.rules.map Rule.v)])]⟩)
  (fun k=>k≤l.length∧((l.drop k).all (rA A e) && (vO e).all (dY l))=w) (fun k=>l.length - k) [] _ 0 rfl (by simp) (by simp [←hw,uI]) ?_
 rintro k ⟨hk,hi⟩ N hN
 rcases place l k hk with ⟨he,hd⟩ | ⟨hlt,x,hx,hd⟩<;>rw [hd] at hi
 · simp only [List.all_nil,Bool.true_and] at hi
   clear hw
   have hrl:(vO e).length≤1000000:=by
    have:=List.length_filter_le (·.req) e.rules
    simp only [vO,List.length_map]; omega
   simp (disch:=omega) [-List.reduceReplicate,he]
   refine aA (qe e hr) (by simp) fun _=>?_
   generalize vO e=rs at *
   simp (disch:=omega) [-List.reduceReplicate]
   refine aI (fun (j:Nat)=>⟨[(1,.seq 2 (l.map Attr.v)),(24,.seq 1 (rs.map .str)),(25,.int .i64 rs.length),(26,.int .i64 j)],[]⟩)
    (fun j=>j≤rs.length∧(rs.drop j).all (dY l)=w) (fun j=>rs.length - j) [] _ 0 rfl (by simp) (by simpa using hi) ?_
   rintro j ⟨hj,hi2⟩ N2 hN2
   rcases place rs j hj with ⟨he2,hd2⟩ | ⟨hlt2,y,hy,hd2⟩<;>rw [hd2] at hi2
   · simp at hi2
     subst hi2
     simp (disch:=omega) [-List.reduceReplicate,he2]
   · simp only [List.all_cons] at hi2
     replace hi2:=hid hi2
     simp (disch:=omega) [-List.reduceReplicate,hy]
     refine ah (xH l y) rfl fun _=>?_
     simp (disch:=omega) [-List.reduceReplicate]
     refine BrK.mk (fun h=>?_) (fun h=>?_)
     · simp (disch:=omega) [-List.reduceReplicate,h]
       refine hN2.out _<|Nx.mk (j + 1) (by simp) ⟨by omega,?_⟩ (by omega)
       have hi2:=hi2.out
       simpa [h] using hi2
     · simp (disch:=omega) [-List.reduceReplicate,h]
       have hi2:=hi2.out
       simpa [h] using hi2
 · simp only [List.all_cons] at hi
   replace hi:=hid hi
   have hax:=kC A e x (fun r hr=>hA r hr x (List.mem_of_getElem? hx))
   simp (disch:=omega) [-List.reduceReplicate,hx]
   refine aS [1] 1 [1] (by simp) (by simp) (by simp) (by simp) hax (by simp) fun _ _=>?_
   simp (disch:=omega) [-List.reduceReplicate]
   refine BrK.mk (fun h=>?_) (fun h=>?_)
   · simp (disch:=omega) [-List.reduceReplicate,h]
     refine hN.out _<|Nx.mk (k + 1) (by simp) ⟨by omega,?_⟩ (by omega)
     have hi:=hi.out
     simpa [h] using hi
   · simp (disch:=omega) [-List.reduceReplicate,h]
     have hi:=hi.out
     simpa [h] using hi
theorem Eo (l:List Attr) (s:Str):dY l s=(ez l s).isSome:=by
 induction l with
 | nil=>rfl
 | cons a l ih=>by_cases h:a.name=s<;>simp [dY,ez,h,ih]
theorem GS (A:Constraint→Str→Bool) (e:Allowed) (l:List Attr):uI A e l=sa A e l:=by
 have h1:l.all (rA A e)=decide ((eL A e l).length=l.length):=by
  rw [Bool.eq_iff_iff,decide_eq_true_iff,eL,List.length_filter_eq_length_iff,List.all_eq_true]
 have h2:(vO e).all (dY l)=whole e l:=by
  simp only [vO,whole]
  induction e.rules with
  | nil=>rfl
  | cons r rs ih=>
    simp only [List.filter_cons]
    cases hr:r.req
    · simpa [hr] using ih
    · simp only [if_true,List.map_cons,List.all_cons,ih,hr,Eo,Bool.true_and,Bool.not_not]
 rw [uI,sa,h1,h2]
theorem AL (A:Constraint→Str→Bool) (e:Allowed) (l:List Attr) (hl:l.length≤1000000) (hA:∀ r∈e.rules,∀ a∈l,Fn Tryz.prog dT [r.value.v,.str a.value] (.bool (A r.value a.value))):
 Fn Tryz.prog zL [e.v,.seq 2 (l.map Attr.v)] (.seq 2 ((eL A e l).map Attr.v)):=by
 refine Fn.of_imageE mixed Ay Aj rfl fun ho=>?_
 unfold qD
 simp only [oks,ok,and_true] at ho
 clear ho
 simp (disch:=omega) [-List.reduceReplicate]
 refine aS [] 0 [] (by simp) (by simp) (by simp) (by simp) (nr e) (by simp) fun _ _=>?_
 simp (disch:=omega) [-List.reduceReplicate]
 generalize hw:eL A e l=w
 refine aI (fun (q:Nat × List Attr)=>⟨[(5,.fn (.func dV) [] [.ptr 0 0]),(6,.ref 1 q.2.length),(11,.seq 2 (l.map Attr.v)),(12,.int .i64 l.length),(13,.int .i64 q.1)],
  [some (.box [.str e.name,.seq 1 (e.kids.map .str),.seq 5 (e.rules.map Rule.v)]),some (.arr bK 2 (q.2.map Attr.v))]⟩)
  (fun q=>q.1≤l.length∧q.2.length≤q.1∧q.2++eL A e (l.drop q.1)=w) (fun q=>l.length - q.1) [.r 6 bK 2] _ (0,[]) rfl (by simp) (by simp [←hw]) ?_
 rintro ⟨k,out⟩ ⟨hk,hol,hi⟩ N hN
 simp only at hk hol hi
 rcases place l k hk with ⟨he,hd⟩ | ⟨hlt,x,hx,hd⟩<;>rw [hd] at hi
 · simp [eL] at hi
   subst hi
   simp (disch:=omega) [-List.reduceReplicate,he]
 · simp only [eL,List.filter_cons] at hi
   replace hi:=hid hi
   have hax:=kC A e x (fun r hr=>hA r hr x (List.mem_of_getElem? hx))
   simp (disch:=omega) [-List.reduceReplicate,hx]
   refine aS [1] 1 [0] (by simp) (by simp) (by simp) (by simp) hax (by simp) fun _ _=>?_
   simp (disch:=omega) [-List.reduceReplicate]
   refine BrK.mk (fun h=>?_) (fun h=>?_)
   · simp (disch:=omega) [-List.reduceReplicate,h]
     have hi:=hi.out
     refine hN.out _<|Nx.mk (k + 1,out++[x]) (by simp) ⟨by simp only; omega,by simp; omega,?_⟩ (by simp only; omega)
     simpa [h,eL] using hi
   · simp (disch:=omega) [-List.reduceReplicate,h]
     have hi:=hi.out
     refine hN.out _<|Nx.mk (k + 1,out) (by simp) ⟨by simp only; omega,by simp only; omega,?_⟩ (by simp only; omega)
     simpa [h,eL] using hi
theorem AK (p:Policy) (hp:gP p) (hpA:qK ar p) (hpr:∀ e∈p.elements,e.rules.length≤1000000) (par:Str) (n:Node) (hk:n.kind=1) (hw:wOK n) (hf:fineN n):
 Fn Tryz.prog zI [p.v,.str par,n.v] (.tup [.seq 2 ((if rO ar p par n=true then uw ar p n else []).map Attr.v),.bool (rO ar p par n)]):=by
 have hI:mE p par n=dH p par n:=ux hp ⟨fun _=>((zh hk).1 hw).2.1,fun h=>absurd hk h⟩ par
 have hin:=kB p par n
 rw [hI] at hin
 have hrl:((bj p.elements n.name).getD .zero).rules.length≤1000000:=by
  cases hf:bj p.elements n.name with
  | none=>simp [Allowed.zero]
  | some e=>exact hpr e (mG hf).1
 have hA:∀ l:List Attr,(∀ a∈l,a∈n.attrs)→∀ r∈((bj p.elements n.name).getD .zero).rules,∀ a∈l,Fn Tryz.prog dT [r.value.v,.str a.value] (.bool (ar r.value a.value)):=by
  intro l hl r hr a ha
  cases hfe:bj p.elements n.name with
  | none=>rw [hfe] at hr; simp [Allowed.zero] at hr
  | some e=>rw [hfe] at hr; exact hpA e (mG hfe).1 r hr a.value (hf.2 a (hl a ha))
 have hkept:=AL ar ((bj p.elements n.name).getD .zero) n.attrs hf.1 (hA _ fun _ h=>h)
 have hkl:(eL ar ((bj p.elements n.name).getD .zero) n.attrs).length≤1000000:=Nat.le_trans (List.length_filter_le _ _) hf.1
 have hholds:=xI ar ((bj p.elements n.name).getD .zero) (eL ar ((bj p.elements n.name).getD .zero) n.attrs) hkl hrl (hA _ fun a ha=>(List.mem_filter.1 ha).1)
 rw [GS,Eg] at hholds
 have hst:rO ar p par n=(dH p par n && ((bj p.elements n.name).isSome && whole ((bj p.elements n.name).getD .zero) (eL ar ((bj p.elements n.name).getD .zero) n.attrs))):=rfl
 have hfind:=fC p n.name
 rw [uw,hst]
 clear hst hI hA
 refine Fn.of_image mixed Av Ag rfl fun ho=>?_
 unfold qA
 simp only [oks,ok,and_true] at ho
 clear ho
 generalize dH p par n=b1 at *
 generalize (bj p.elements n.name).isSome=b2 at *
 generalize (bj p.elements n.name).getD .zero=e at *
 generalize eL ar e n.attrs=ka at *
 generalize whole e ka=b3 at *
 simp (disch:=omega) [-List.reduceReplicate]
 refine ah (by simpa using hin) rfl fun _=>?_
 cases b1
 · simp (disch:=omega) [-List.reduceReplicate]
 · simp (disch:=omega) [-List.reduceReplicate]
   refine aA (by simpa using hfind) (by simp) fun _=>?_
   cases b2
   · simp (disch:=omega) [-List.reduceReplicate]
   · simp (disch:=omega) [-List.reduceReplicate]
     refine aA (by simpa using hkept) (by simp) fun _=>?_
     simp (disch:=omega) [-List.reduceReplicate]
     refine ah (by simpa using hholds) rfl fun _=>?_
     cases b3
     · simp (disch:=omega) [-List.reduceReplicate]
     · simp (disch:=omega) [-List.reduceReplicate]
def oR (o:List Node):List (Option Ob):=[some (.box [.ref 1 o.length]),some (.arr aC 5 (o.map Node.v))]
theorem sg (o:List Node) (n:Node) (ho':o.length≤1000000):FnH Tryz.prog cd [1] [.seq 5 [n.v],.ptr 0 0] (oR o) (.tup []) (oR (o++[n])):=by
 refine FnH.of_image mixed p7 pW rfl fun ho hh=>?_
 unfold iY
 clear ho hh
 simp (disch:=omega) [-List.reduceReplicate,oR]
def vH (p:Policy) (l:List Node):Prop:=∀ (par:Str) (o:List Node),o.length + ai l≤1000000→∀ H,(H=oR o∨(o=[]∧H=[some (.box [.nil 5])]))→
 FnH Tryz.prog zH [3] [p.v,.str par,.seq 5 (l.map Node.v),.fn (.func cd) [] [.ptr 0 0]] H (.tup []) (oR (o++clL ar p l par))
theorem qg (p:Policy) (l:List Node) (par:Str) (hs:vH p l) (hc:ai l≤1000000):Fn Tryz.prog f6 [p.v,.str par,.seq 5 (l.map Node.v)] (.seq 5 ((clL ar p l par).map Node.v)):=by
 have h:=hs par [] (by simpa using hc) _ (.inr ⟨rfl,rfl⟩)
 simp only [List.nil_append] at h
 generalize clL ar p l par=r at *
 refine Fn.of_imageE mixed s6 sV rfl fun ho=>?_
 unfold kI
 simp only [oks,ok,and_true] at ho
 clear ho
 simp (disch:=omega) [-List.reduceReplicate]
 refine aS [3] 1 [1] (by simp) (by simp) (by simp) (by simp) h (by simp [oR]) fun _ _=>?_
 simp (disch:=omega) [-List.reduceReplicate,oR]
theorem mJ (n:Node):jA n=1 + ai n.kids:=by cases n; simp [jA]
theorem Nm (A:Constraint→Str→Bool) (p:Policy):∀ (l:List Node) (par:Str),ai (clL A p l par)≤ai l:=by
 refine ay (fun _=>by simp [clL,ai]) ?_
 intro n l h1 h2 par
 have a1:=h2 par
 simp only [clL,j9,ai]
 have:ai (clN A p n par)≤jA n:=by
  rw [l6,mJ]
  split
  · split
    · have:=h1 n.name
      simp only [ai,mJ]; omega
    · split
      · have:=h1 par; omega
      · simp [ai]
  · split
    · simp only [ai,mJ]; omega
    · simp [ai]
 omega
theorem qh (p:Policy) (hp:gP p) (hpA:qK ar p) (hpr:∀ e∈p.elements,e.rules.length≤1000000) (l:List Node) (hw:an wOK l) (hf:an fineN l) (hrec:∀ n∈l,vH p n.kids):vH p l:=by
 intro par o hlen H hH
 have hll:=cX l
 refine FnH.of_image mixed Au Af rfl fun ho hh=>?_
 unfold qz
 clear ho hh
 generalize hR:o++clL ar p l par=R
 rcases hH with rfl | ⟨rfl,rfl⟩
 all_goals
  simp (disch:=omega) [-List.reduceReplicate,oR]
  first
   | refine aI (fun (q:Nat × List Node)=>⟨[(1,.str par),(3,.fn (.func cd) [] [.ptr 0 0]),(4,.ptr 1 0),(13,.seq 5 (l.map Node.v)),(14,.int .i64 l.length),(15,.int .i64 q.1)],
      [some (.box [.ref 2 q.2.length]),some (.box [.seq 1 (p.top.map .str),.seq 3 (p.elements.map Allowed.v),.seq 1 (p.unwrap.map .str)]),some (.arr aC 5 (q.2.map Node.v))]⟩)
      (fun q=>q.1≤l.length∧q.2.length + ai (l.drop q.1)≤1000000∧q.2++clL ar p (l.drop q.1) par=R) (fun q=>l.length - q.1) [] _ (0,o) rfl (by simp) ⟨Nat.zero_le _,by simpa using hlen,by simpa using hR⟩ ?_
   | refine aI (fun (q:Nat × List Node)=>⟨[(1,.str par),(3,.fn (.func cd) [] [.ptr 0 0]),(4,.ptr 1 0),(13,.seq 5 (l.map Node.v)),(14,.int .i64 l.length),(15,.int .i64 q.1)],
      [some (.box [.ref 2 q.2.length]),some (.box [.seq 1 (p.top.map .str),.seq 3 (p.elements.map Allowed.v),.seq 1 (p.unwrap.map .str)]),some (.arr aC 5 (q.2.map Node.v))]⟩)
      (fun q=>q.1≤l.length∧q.2.length + ai (l.drop q.1)≤1000000∧q.2++clL ar p (l.drop q.1) par=R) (fun q=>l.length - q.1) [.b 0 0 aC 5] _ (0,[]) rfl (by simp) ⟨Nat.zero_le _,by simpa using hlen,by simpa using hR⟩ ?_
  rintro ⟨k,w⟩ ⟨hk,hwl,hi⟩ N hN
  simp only at hk hwl hi
  rcases place l k hk with ⟨he,hd⟩ | ⟨hlt,n,hn,hd⟩<;>rw [hd] at hi hwl
  · simp only [clL,List.append_nil] at hi
    subst hi
    simp (disch:=omega) [-List.reduceReplicate,he]
  · have hnm:=List.mem_of_getElem? hn
    obtain ⟨w1,w2⟩:=bg.1 hw n hnm
    obtain ⟨f1,f2⟩:=bg.1 hf n hnm
    simp only [ai,mJ] at hwl
    simp only [clL,l6] at hi
    have hdc:(l.drop (k + 1)).length≤1000000:=by
     have:=cX (l.drop (k + 1)); omega
    have next:∀ (X:List Node),w++(X++clL ar p (l.drop (k + 1)) par)=R→X.length≤1 + ai n.kids→∀ τ:St,τ.nrm [1,3,4,13,14,15]=⟨[(1,.str par),(3,.fn (.func cd) [] [.ptr 0 0]),(4,.ptr 1 0),(13,.seq 5 (l.map Node.v)),(14,.int .i64 l.length),(15,.int .i64 ((k + 1:Nat):Int))],
     [some (.box [.ref 2 (w++X).length]),some (.box [.seq 1 (p.top.map .str),.seq 3 (p.elements.map Allowed.v),.seq 1 (p.unwrap.map .str)]),some (.arr aC 5 ((w++X).map Node.v))]⟩→N τ:=by
     intro X hX hXl τ hτ
     refine hN.out _<|Nx.mk (k + 1,w++X) hτ ⟨by simp only; omega,?_,by simpa using hX⟩ (by simp only; omega)
     simp only [List.length_append]; omega
    by_cases hk1:n.kind=1
    · rw [if_pos hk1] at hi
      have hheld:=AK p hp hpA hpr par n hk1 w1 f1
      by_cases hst:rO ar p par n=true
      · rw [if_pos hst] at hi hheld
        rw [hst] at hheld
        have hcl:=qg p n.kids n.name (hrec n hnm) (by omega)
        have h1:=sg w ⟨1,n.name,uw ar p n,[],clL ar p n.kids n.name⟩ (by omega)
        generalize uw ar p n=kp at *
        generalize clL ar p n.kids n.name=kd at *
        replace hi:=hid hi
        simp (disch:=omega) [-List.reduceReplicate,hn,hk1]
        refine aA (by simpa [hk1] using hheld) (by simp) fun _=>?_
        simp (disch:=omega) [-List.reduceReplicate]
        refine aA (by simpa using hcl) (by simp) fun _=>?_
        simp (disch:=omega) [-List.reduceReplicate]
        refine aS [1] 1 [0,2] (by simp) (by simp) (by simp) (by simp [oR]) h1 (by simp [oR]) fun _ _=>?_
        simp (disch:=omega) [-List.reduceReplicate,oR]
        refine next [⟨1,n.name,kp,[],kd⟩] hi.out (by simp) _ ?_
        simp
      · have hst':rO ar p par n=false:=by simpa using hst
        rw [if_neg hst] at hi hheld
        rw [hst'] at hheld
        have hcon:=aW p.unwrap n.name
        by_cases hu:bT p.unwrap n.name=true
        · rw [if_pos hu] at hi
          rw [hu] at hcon
          have hX:=Nm ar p n.kids par
          have hXl:=cX (clL ar p n.kids par)
          have hs:=hrec n hnm par w (by omega) _ (.inl rfl)
          generalize clL ar p n.kids par=X at *
          replace hi:=hid hi
          simp (disch:=omega) [-List.reduceReplicate,hn,hk1]
          refine aA (by simpa [hk1] using hheld) (by simp) fun _=>?_
          simp (disch:=omega) [-List.reduceReplicate]
          refine ah (by simpa using hcon) rfl fun _=>?_
          simp (disch:=omega) [-List.reduceReplicate]
          refine aS [3] 1 [0,2] (by simp) (by simp) (by simp) (by simp [oR]) hs (by simp [oR]) fun _ _=>?_
          simp (disch:=omega) [-List.reduceReplicate,oR]
          refine next X hi.out (by omega) _ ?_
          simp
        · have hu':bT p.unwrap n.name=false:=by simpa using hu
          rw [if_neg hu] at hi
          rw [hu'] at hcon
          replace hi:=hid hi
          simp (disch:=omega) [-List.reduceReplicate,hn,hk1]
          refine aA (by simpa [hk1] using hheld) (by simp) fun _=>?_
          simp (disch:=omega) [-List.reduceReplicate]
          refine ah (by simpa using hcon) rfl fun _=>?_
          simp (disch:=omega) [-List.reduceReplicate]
          refine next [] hi.out (by simp) _ ?_
          simp
    · rw [if_neg hk1] at hi
      have hI:mE p par n=dH p par n:=ux hp ⟨fun h=>absurd h hk1,fun _=>(oZ hk1 w1).2.2.2⟩ par
      have hin:=kB p par n
      rw [hI] at hin
      by_cases hb:dH p par n=true
      · rw [if_pos hb] at hi
        rw [hb] at hin
        have h1:=sg w ⟨n.kind,[],[],n.text,[]⟩ (by omega)
        replace hi:=hid hi
        simp (disch:=omega) [-List.reduceReplicate,hn,hk1]
        refine ah (by simpa using hin) rfl fun _=>?_
        simp (disch:=omega) [-List.reduceReplicate]
        refine aS [1] 1 [0,2] (by simp) (by simp) (by simp) (by simp [oR]) h1 (by simp [oR]) fun _ _=>?_
        simp (disch:=omega) [-List.reduceReplicate,oR]
        refine next [⟨n.kind,[],[],n.text,[]⟩] hi.out (by simp) _ ?_
        simp
      · have hb':dH p par n=false:=by simpa using hb
        rw [if_neg hb] at hi
        rw [hb'] at hin
        replace hi:=hid hi
        simp (disch:=omega) [-List.reduceReplicate,hn,hk1]
        refine ah (by simpa using hin) rfl fun _=>?_
        simp (disch:=omega) [-List.reduceReplicate]
        refine next [] hi.out (by simp) _ ?_
        simp
theorem IG (p:Policy) (hp:gP p) (hpA:qK ar p) (hpr:∀ e∈p.elements,e.rules.length≤1000000):∀ l:List Node,an wOK l→an fineN l→vH p l:=by
 have all:∀ l:List Node,an wOK l→an fineN l→∀ n∈l,vH p n.kids:=by
  refine ay (fun _ _ n h=>by cases h) ?_
  intro n l h1 h2 hw hf x hx
  obtain ⟨⟨w1,w2⟩,w3⟩:=aL.1 hw
  obtain ⟨⟨f1,f2⟩,f3⟩:=aL.1 hf
  rcases List.mem_cons.1 hx with rfl | hx
  · exact qh p hp hpA hpr x.kids w2 f2 (h1 w2 f2)
  · exact h2 w3 f3 x hx
 exact fun l hw hf=>qh p hp hpA hpr l hw hf (all l hw hf)
theorem tc (p:Policy) (hp:gP p) (hpA:qK ar p) (hpr:∀ e∈p.elements,e.rules.length≤1000000) (l:List Node) (par:Str) (hw:an wOK l) (hf:an fineN l) (hc:ai l≤1000000):
 Fn Tryz.prog f6 [p.v,.str par,.seq 5 (l.map Node.v)] (.seq 5 ((clL ar p l par).map Node.v)):=qg p l par (IG p hp hpA hpr l hw hf) hc
end Go.Abs.F
end
section
namespace Go.Abs.F
open Go.Proofs Go.RowKit
attribute [-simp] getElem?_pos Option.not_isSome List.map_map
theorem Ph {B:Nat}:∀ l:List Node,bA l≤B→an (fun n=>n.text.length≤B) l:=by
 refine ay (fun _=>trivial) ?_
 intro n l h1 h2 h
 simp only [bA,gV] at h
 exact aL.2 ⟨⟨by omega,h1 (by omega)⟩,h2 (by omega)⟩
theorem Nj {B:Nat}:∀ l:List Node,ai l≤B→an (fun n=>n.kids.length≤B) l:=by
 refine ay (fun _=>trivial) ?_
 intro n l h1 h2 h
 simp only [ai,oO] at h
 have:=cX n.kids
 exact aL.2 ⟨⟨by omega,h1 (by omega)⟩,h2 (by omega)⟩
theorem mO {f g:Node→Prop}:∀ l:List Node,an f l→an g l→an (fun n=>f n∧g n) l:=by
 refine ay (fun _ _=>trivial) ?_
 intro n l h1 h2 hf hg
 obtain ⟨⟨a,b⟩,c⟩:=aL.1 hf
 obtain ⟨⟨a',b'⟩,c'⟩:=aL.1 hg
 exact aL.2 ⟨⟨⟨a,a'⟩,h1 b b'⟩,h2 c c'⟩
theorem SizeB.fine1 {l:List Node} (h:SizeB l):an fine1 l:=
 ef (fun n h _=>⟨h.1.1,h.2,h.1.2.1,fun a ha=>⟨(h.1.2.2 a ha).1,by have:=(h.1.2.2 a ha).2; omega⟩⟩) l (mO l h.att (Ph l h.tt))
theorem SizeB.fineN {l:List Node} (h:SizeB l):an fineN l:=ef (fun n h _=>⟨h.2.1,fun a ha=>(h.2.2 a ha).2⟩) l h.att
theorem SizeB.few {l:List Node} (h:SizeB l):an fc l:=ef (fun n h _=>⟨h.1.2.1,h.2⟩) l (mO l h.att (Nj l (by have:=h.cnt; omega)))
theorem SizeB.okS {l:List Node} (h:SizeB l) (hw:an wOK l):an okS l:=ef (fun n h _=>⟨h.1,h.2.1⟩) l (mO l (mO l hw h.few) h.att)
theorem ED (n:Node):c7 [] n=true:=by simp [c7,Ir,raw,rp,dm,bT]
theorem Mh (l:List Node):stT [] l=tX l:=by
 have:∀ K:List Node,a7 [] K=K:=fun K=>List.filter_eq_self.2 fun n _=>ED n
 rw [stT,this,this]
 rfl
theorem ja (p:Policy) (hp:gP p) (hpA:qK ar p) (hpr:∀ e∈p.elements,e.rules.length≤1000000) (l:List Node) (hb:SizeB l):Fn Tryz.prog dd [p.v,.seq 5 (l.map Node.v)] (.seq 5 ((rq ar p l).map Node.v)):=by
 have hM:=G1 l hb.fine1 hb.cnt
 have hmw:may l=0→an wOK l:=Fd l false
 have hcl:may l=0→Fn Tryz.prog f6 [p.v,.str [],.seq 5 (l.map Node.v)] (.seq 5 ((clL ar p l []).map Node.v)):=fun h=>tc p hp hpA hpr l [] (hmw h) hb.fineN (by have:=hb.cnt; omega)
 have hst:may l=0→Fn Tryz.prog lA [.seq 5 ((clL ar p l []).map Node.v)] (.seq 5 ((tX (clL ar p l [])).map Node.v)):=fun h=>by
  have hs:=IE ar p [] hb
  rw [←Mh]
  exact ve _ (hs.okS (Qn ar p l [] (hmw h))) hs.wt (by have:=hs.tt; omega)
 rw [rq]
 generalize clL ar p l []=cl at *
 generalize tX cl=sd at *
 generalize hm:may l=m at *
 refine Fn.of_image mixed xo wR rfl fun ho=>?_
 unfold nN
 simp only [oks,ok,and_true] at ho
 clear ho
 simp (disch:=omega) [-List.reduceReplicate]
 refine ah (by simpa using hM) rfl fun _=>?_
 by_cases h0:m=0
 · simp (disch:=omega) [-List.reduceReplicate,h0]
   refine aA (by simpa using hcl h0) (by simp) fun _=>?_
   simp (disch:=omega) [-List.reduceReplicate]
   refine aA (hst h0) (by simp) fun _=>?_
   simp (disch:=omega) [-List.reduceReplicate]
 · simp (disch:=omega) [-List.reduceReplicate,h0]
def exP:Policy:=⟨[[98]],[⟨[98],[fQ],[]⟩],[]⟩
def G5:Policy:=⟨[],[],[]⟩
def txN (c:UInt8):Node:=⟨2,[],[],[c],[]⟩
def exN:List Node:=[⟨1,[98],[⟨[105,100],[49]⟩],[],[txN 120,⟨1,[105],[],[],[txN 121]⟩]⟩]
def EN:List Node:=[txN 120]
theorem Qg:gP exP:=⟨fun s hs=>.inr (.inr (by simp [exP] at hs; subst hs; rfl)),fun e he=>by simp [exP] at he; subst he; exact fun s hs=>by simp at hs; exact .inl hs⟩
theorem Nc:gP G5:=⟨fun s hs=>by simp [G5] at hs,fun e he=>by simp [G5] at he⟩
theorem JW:SizeB exN:=⟨by simp [exN,txN,an,Dr,Kt],by simp [exN,txN,ai,jA],by simp [exN,txN,aX,wtN],by simp [exN,txN,bA,ttN]⟩
theorem G7:SizeB EN:=⟨by simp [EN,txN,an,Dr,Kt],by simp [EN,txN,ai,jA],by simp [EN,txN,aX,wtN],by simp [EN,txN,bA,ttN]⟩
theorem JV:rq ar exP exN=[⟨1,[98],[],[],[txN 120]⟩]:=by kernel_rfl
theorem G4:rq ar G5 EN=[]:=by kernel_rfl
theorem EM:Fn Tryz.prog dd [exP.v,.seq 5 (exN.map Node.v)] (.seq 5 [.strct [.int .i64 1,.str [98],.seq 2 [],.str [],.seq 5 [.strct [.int .i64 2,.str [],.seq 2 [],.str [120],.seq 5 []]]]]):=by
 have:=ja exP Qg (fun e he r hr=>by simp [exP] at he; subst he; cases hr) (fun e he=>by simp [exP] at he; subst he; simp) exN JW
 rwa [JV] at this
theorem C7:Fn Tryz.prog dd [G5.v,.seq 5 (EN.map Node.v)] (.seq 5 []):=by
 have:=ja G5 Nc (fun e he=>by cases he) (fun e he=>by cases he) EN G7
 rwa [G4] at this
def exB:Str:=[60,98,32,105,100,61,49,62,120,60,105,62,121,60,47,105,62,60,47,98,62]
theorem xG (p:Policy) (l:List V) (N N':List V) (h1:Fn Tryz.prog dS [.seq 1 l] (.seq 5 N)) (h2:Fn Tryz.prog dd [p.v,.seq 5 N] (.seq 5 N')) {s:Str} (h3:Fn Tryz.prog eG [.seq 5 N'] (.str s)) (hl:l.length < 1000):
 Fn Tryz.prog wj [p.v,.seq 1 l,.int .i64 l.length] (.tup [.str s,.int .i64 0]):=by
 refine Fn.of_image mixed xp wS rfl fun ho=>?_
 unfold nO
 simp only [oks,ok,and_true] at ho
 clear ho
 simp (disch:=omega) [-List.reduceReplicate]
 refine kY h1 (by simp) ?_
 simp (disch:=omega) [-List.reduceReplicate]
 refine kY (by simpa using h2) (by simp) ?_
 simp (disch:=omega) [-List.reduceReplicate]
 refine kY h3 (by simp) ?_
 simp (disch:=omega) [-List.reduceReplicate]
theorem qi (p:Policy) (b:Str) (N N':List V) (h1:Fn Tryz.prog dS [.seq 1 (b.map bV)] (.seq 5 N)) (h2:Fn Tryz.prog dd [p.v,.seq 5 N] (.seq 5 N')) {s:Str} (h3:Fn Tryz.prog eG [.seq 5 N'] (.str s)) (hl:b.length < 1000):
 Fn Tryz.prog zJ [p.v,.str b] (.str s):=by
 have h:=xG p _ N N' h1 h2 h3 (by simpa using hl)
 refine Fn.of_image mixed Aw Ah rfl fun ho=>?_
 unfold qB
 simp only [oks,ok,and_true] at ho
 clear ho
 simp (disch:=omega) [-List.reduceReplicate]
 refine aA (by simpa using h) (by simp) fun _=>?_
 simp (disch:=omega) [-List.reduceReplicate]
theorem fD:Fn Tryz.prog wh [] (.bool true):=by
 have g1:=qi exP exB _ _ EI EM EG (by simp [exB])
 have g2:=qi G5 [120] _ _ C3 C7 CW (by simp)
 refine Fn.of_image mixed xm wP rfl fun ho=>?_
 unfold nL
 simp only [oks,ok,and_true] at ho
 clear ho
 simp (disch:=omega) [-List.reduceReplicate]
 refine aA (show Ctr.p _ _ _ _ from g1) (by simp) fun _=>?_
 simp (disch:=omega) [-List.reduceReplicate]
 refine aA (show Ctr.p _ _ _ _ from g2) (by simp) fun _=>?_
 simp (disch:=omega) [-List.reduceReplicate]
theorem L7:∀ l:List Node,an EF l→bA (l.map bG)≤120 * ai l:=by
 refine ay (fun _=>by simp [bA]) ?_
 intro n l h1 h2 ha
 obtain ⟨⟨a1,a2⟩,a3⟩:=aL.1 ha
 have g1:=h1 a2
 have g2:=h2 a3
 have hr:=jM n.text
 have ht:=a1.2.1
 have hm:=tT (n.kids.map bG)
 simp only [List.map_cons,bA,ai,oO,gV]
 rw [fR]
 split
 · simp only [List.length_nil]; omega
 · simp only [bA]; omega
theorem Oq {B:Nat}:∀ l:List Node,an (fun n=>n.attrs.length≤B) l→aX l≤(B + 1) * ai l:=by
 refine ay (fun _=>by simp [aX]) ?_
 intro n l h1 h2 ha
 obtain ⟨⟨a1,a2⟩,a3⟩:=aL.1 ha
 have g1:=h1 a2
 have g2:=h2 a3
 simp only [aX,kW,ai,oO,Nat.mul_add,Nat.mul_one]
 omega
theorem Bn (l:List Node):SizeB (eU l):=by
 obtain ⟨h1,h2,h3⟩:=CK l
 refine ⟨ef (fun n h _=>⟨by have:=h.1; omega,by have:=h.2.1; omega,fun a ha=>⟨by have:=(h.2.2.1 a ha).1; omega,(h.2.2.1 a ha).2⟩⟩) _ h1,by omega,?_,?_⟩
 · have:=Oq (B:=1000) _ (ef (fun n h _=>h.2.1) _ h1)
   omega
 · have g1:=L7 _ (sh l 40)
   have g2:=qk l 40
   have g3:=tT ((cW l 40).1.map bG)
   rw [eU]
   omega
theorem mo:∀ a b:List Node,et (a++b)=et a++et b
 | [],b=>rfl
 | n::a,b=>by simp only [List.cons_append,et,mo a b,List.append_assoc]
theorem FI {f:List Node→Prop} (key:∀ l:List Node,(∀ n∈l,f n.kids)→f l):∀ l,f l:=by
 have all:∀ l:List Node,∀ n∈l,f n.kids:=by
  refine ay (fun x hx=>by cases hx) ?_
  intro n l h1 h2 x hx
  rcases List.mem_cons.1 hx with rfl | hx
  · exact key _ h1
  · exact h2 x hx
 exact fun l=>key l (all l)
theorem C1:∀ l:List Node,ai l≤1000000→Fn Tryz.prog BT [.seq 5 (l.map Node.v)] (.seq 5 ((et l).map Node.v)):=by
 refine FI ?_
 intro l hrec hc
 refine Fn.of_image mixed CC Ck rfl fun ho=>?_
 unfold sv
 simp only [oks,ok,and_true] at ho
 clear ho
 have hlen:=cX l
 simp (disch:=omega) [-List.reduceReplicate]
 refine aI (fun (k:Nat)=>⟨[(0,.seq 5 (l.map Node.v)),(3,.ref 0 (et (l.take k)).length),(4,.int .i64 k)],[some (.arr aC 5 ((et (l.take k)).map Node.v))]⟩)
  (fun k=>k≤l.length) (fun k=>l.length - k) [.r 3 aC 5] _ 0 rfl (by simp [et]) (by simp) ?_
 rintro k hk N hN
 rcases place l k hk with ⟨he,hd⟩ | ⟨hlt,x,hx,hd⟩
 · have htk:l.take k=l:=List.take_of_length_le (by omega)
   rw [htk]
   simp (disch:=omega) [-List.reduceReplicate,he]
 · have hxm:=List.mem_of_getElem? hx
   have hcx:=mI hxm
   have hr:=hrec x hxm (by omega)
   have e:et (l.take (k + 1))=et (l.take k)++x::et x.kids:=by
    rw [fk hx,mo]; simp [et,vF]
   have hb:(et (l.take k)).length≤1000000:=by
    have h1:=vE l
    have h2:l=l.take k++l.drop k:=(List.take_append_drop k l).symm
    have h3:(et l).length=(et (l.take k)).length + (et (l.drop k)).length:=by rw [←List.length_append,←mo,←h2]
    omega
   have hb2:(et x.kids).length≤1000000:=by rw [vE]; omega
   generalize et (l.take k)=pre at *
   generalize et x.kids=K at *
   simp (disch:=omega) [-List.reduceReplicate,hx]
   refine aA hr (by simp) fun _=>?_
   simp (disch:=omega) [-List.reduceReplicate,hx]
   refine hN.out _<|Nx.mk (k + 1) (by rw [e]; simp; omega) (by omega) (by omega)
theorem Pf:∀ l:List Node,(i1 l).length≤bA l:=by
 refine ay (by simp [i1]) ?_
 intro n l h1 h2
 simp only [i1,pg,bA,gV,List.length_append]
 split<;>(try simp only [List.length_nil])<;>omega
theorem xx:∀ l:List Node,ai l≤1000000→bA l≤1000000000→Fn Tryz.prog vX [.seq 5 (l.map Node.v)] (.str (i1 l)):=by
 refine FI ?_
 intro l hrec hc hb
 have hlen:=cX l
 have ht:=Pf l
 refine Fn.of_image mixed w8 wD rfl fun ho=>?_
 unfold nB
 simp only [oks,ok,and_true] at ho
 clear ho
 simp (disch:=omega) [-List.reduceReplicate]
 generalize hw:i1 l=w at *
 refine aI (fun x:Nat × Str=>⟨[(0,.seq 5 (l.map Node.v)),(3,.str x.2),(4,.int .i64 x.1)],[]⟩) (fun x=>x.1≤l.length∧x.2++i1 (l.drop x.1)=w) (fun x=>l.length - x.1) [] _ (0,[]) rfl (by simp) (by simp [hw]) ?_
 rintro ⟨j,a⟩ ⟨hj,hi⟩ N hN
 simp only at hj hi
 rcases place l j hj with ⟨he,hd⟩ | ⟨hlt,x,hx,hd⟩<;>rw [hd] at hi
 · simp [i1] at hi
   subst hi
   simp (disch:=omega) [-List.reduceReplicate,he]
 · have hxm:=List.mem_of_getElem? hx
   have hcx:=mI hxm
   have htx:=tU hxm
   rw [gV] at htx
   simp only [i1,pg] at hi
   have hr:=hrec x hxm (by omega) (by omega)
   have hal:a.length + (Pg x).length≤1000000000:=by
    have:=congrArg List.length hi
    rw [pg]
    simp only [List.length_append] at this ⊢
    omega
   rw [pg] at hal
   generalize i1 x.kids=wk at *
   by_cases hk:x.kind=2
   · simp only [hk,if_true,List.length_append] at hal hi
     simp (disch:=omega) [-List.reduceReplicate,hx,hk]
     refine ah hr rfl fun _=>?_
     simp (disch:=omega) [-List.reduceReplicate]
     refine hN.out _<|Nx.mk (j + 1,a++x.text++wk) (by simp) ⟨by simp only; omega,by simpa using hi⟩ (by simp only; omega)
   · simp only [hk,if_false,List.length_append,List.nil_append] at hal hi
     simp (disch:=omega) [-List.reduceReplicate,hx,hk]
     refine ah hr rfl fun _=>?_
     simp (disch:=omega) [-List.reduceReplicate]
     refine hN.out _<|Nx.mk (j + 1,a++wk) (by simp) ⟨by simp only; omega,by simpa using hi⟩ (by simp only; omega)
theorem EZ (u:List Str):gP (e9 u):=⟨fun s hs=>.inl (by simpa [e9] using hs),fun e he=>by cases he⟩
theorem oK (l:List Node):FnE Tryz.prog bq [.seq 5 (l.map Node.v)] (.bool true):=by
 refine FnE.of_image mixed dZ oy rfl fun ho=>?_
 unfold iv
 clear ho
 have h3:=AH l
 have sz:=Bn l
 have hm:=Ey l
 generalize eU l=g at *
 have hA:=C1 g (by have:=sz.cnt; omega)
 have hP:=xx g (by have:=sz.cnt; omega) (by have:=sz.tt; omega)
 have hal:(et g).length < 1000:=by rw [vE]; exact sz.cnt
 have hC:∀ u:List Str,(∀ m∈et g,m.kind=1→bT u m.name=true)→Fn Tryz.prog dd [(e9 u).v,.seq 5 (g.map Node.v)] (.seq 5 ((if i1 g=[] then [] else [jh (i1 g)]).map Node.v)):=fun u hu=>by
  have:=ja (e9 u) (EZ u) (fun e he=>by cases he) (fun e he=>by cases he) g sz
  rwa [Dg ar hm hu] at this
 clear sz hm
 generalize et g=all at *
 generalize i1 g=tx at *
 simp (disch:=omega) [-List.reduceReplicate]
 refine aA h3 (by simp) fun _=>?_
 simp (disch:=omega) [-List.reduceReplicate]
 refine aA hA (by simp) fun _=>?_
 simp (disch:=omega) [-List.reduceReplicate]
 refine aI (fun (q:Nat × List Str)=>⟨[(3,.seq 5 (g.map Node.v)),(4,.ptr 0 0),(5,.seq 5 (all.map Node.v)),(6,.int .i64 q.1)],[some (.box [.seq 1 [.str fQ],.nil 3,.ref 1 q.2.length]),some (.arr bX 1 (q.2.map .str))]⟩)
  (fun q=>q.1≤all.length∧q.2.length≤12∧∀ m∈all.take q.1,m.kind=1→bT q.2 m.name=true) (fun q=>all.length - q.1) [.b 0 2 bX 1] _ (0,[]) rfl (by simp [fQ]) (by simp) ?_
 rintro ⟨i,u⟩ ⟨hi,hul,hu⟩ N hN
 simp only at hi hul hu
 rcases Nat.lt_or_ge i all.length with hlt | hge
 · obtain ⟨x,hx⟩:=fw (l:=all) (k:=i) hlt
   have hxv:=Node.v_eq x
   simp (disch:=omega) [-List.reduceReplicate,hx]
   have next:∀ (u':List Str) (τ:St),(∀ m,bT u m=true→bT u' m=true)→u'.length≤12→(x.kind=1→bT u' x.name=true)→
    τ.nrm [3,4,5,6]=⟨[(3,.seq 5 (g.map Node.v)),(4,.ptr 0 0),(5,.seq 5 (all.map Node.v)),(6,.int .i64 ((i + 1:Nat):Int))],[some (.box [.seq 1 [.str fQ],.nil 3,.ref 1 u'.length]),some (.arr bX 1 (u'.map .str))]⟩→N τ:=by
    intro u' τ h1 h2 h4 h
    refine hN.out _<|Nx.mk (i + 1,u') h ⟨by simp only; omega,h2,fun m hm hk=>?_⟩ (by simp only; omega)
    simp only at hm ⊢
    rw [fk hx] at hm
    rcases List.mem_append.1 hm with hm | hm
    · exact h1 _ (hu m hm hk)
    · simp at hm; subst hm; exact h4 hk
   refine BrK.mk (fun h1=>?_) (fun h1=>?_)
   · have h1:x.kind=1:=by simpa using h1
     simp (disch:=omega) [-List.reduceReplicate,hx]
     refine bw (CY u x.name) rfl ?_
     simp (disch:=omega) [-List.reduceReplicate,hx]
     refine BrK.mk (fun h2=>?_) (fun h2=>?_)
     · simp (disch:=omega) [-List.reduceReplicate]
       exact next u _ (fun _ h=>h) hul (fun _=>h2) rfl
     · simp (disch:=omega) [-List.reduceReplicate,hx]
       by_cases h4:16 < x.name.length
       · simp (disch:=omega) [-List.reduceReplicate,h4]
         refine ah fD rfl fun _=>?_
         simp (disch:=omega) [-List.reduceReplicate]
       · by_cases h5:u.length=12
         · simp (disch:=omega) [-List.reduceReplicate,h4,h5]
           refine ah fD rfl fun _=>?_
           simp (disch:=omega) [-List.reduceReplicate]
         · simp (disch:=omega) [-List.reduceReplicate,h4,h5,hx]
           refine next (u++[x.name]) _ (fun m hm=>?_) (by simp; omega) (fun _=>?_) (by simp)
           · rw [pY] at hm ⊢; simp [hm]
           · rw [pY]; simp
   · have h1:¬x.kind=1:=by simpa using h1
     simp (disch:=omega) [-List.reduceReplicate]
     exact next u _ (fun _ h=>h) hul (fun h=>absurd h h1) rfl
 · obtain rfl:i=all.length:=by omega
   have hc:=hC u (by simpa using hu)
   simp (disch:=omega) [-List.reduceReplicate]
   refine tO (by simpa [e9] using hc) fun _=>?_
   simp (disch:=omega) [-List.reduceReplicate]
   refine aA hP (by simp) fun _=>?_
   by_cases ht:tx=[]
   · subst ht
     simp (disch:=omega) [-List.reduceReplicate]
     refine ah fD rfl fun _=>?_
     simp (disch:=omega) [-List.reduceReplicate]
   · simp (disch:=omega) [-List.reduceReplicate,ht,jh]
     refine ah fD rfl fun _=>?_
     simp (disch:=omega) [-List.reduceReplicate]
end Go.Abs.F
end
