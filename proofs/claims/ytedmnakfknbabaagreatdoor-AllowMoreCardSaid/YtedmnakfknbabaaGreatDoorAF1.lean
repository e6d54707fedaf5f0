/- What the first functions of the document's packages answer. No condition. -/
import Derived.Test.YtedmnakfknbabaaGreatDoorACodeA
import Derived.Lib.Bytealg
import Derived.Test.YtedmnakfknbabaaGreatDoorACodeW
set_option linter.all false
set_option maxHeartbeats 0
set_option maxRecDepth 100000
open List renaming reduceReplicate→zAa,take→zAb,mem_of_getElem?→zAc,length_cons→zAd,length_take→zAe,getElem?_take→zAf,eq_nil_of_length_eq_zero→zAg,take_of_length_le→zAh,map_cons→zAi,length_append→zAj,mem_cons→zBa,mem_append→zBb,flatMap_cons→zBc,filter_cons→zBd,length_nil→zBe,all_cons→zBh,getElem?_map→zBi,mem_or_eq_of_mem_set→zBj,mem_filter→zCa,sum_cons→zCb,mem_map_of_mem→zCc,mem_singleton→zCe,mem_map→zCf,set_cons_succ→zCg,flatten_cons→zCi,mem_flatMap→zDa,any_cons→zDc,map_set→zDe
open Nat renaming le_refl→zBf,eq_zero_or_pos→zBg,mul_le_mul_left→zCd,mod_lt→zDb,add_zero→zDd
open Option renaming not_isSome→zCh
open Bool renaming not_eq_true→zCj
open Option.some renaming injEq→zDf
open List.cons renaming injEq→zDg
section
namespace Go.Abs.F
open Go.Proofs
attribute [-simp] getElem?_pos
theorem mixed:Tryz.prog.follows .mixedOrders=true:=by kernel_rfl
abbrev Str:=List UInt8
def small(b:UInt8):Bool:=97<=b.toNat&&b.toNat<=122
theorem jQ(b:UInt8):Fn Tryz.prog xx [.int .u8 b.toNat] (.bool (small b)):=by
 refine Fn.of_image mixed yw xY rfl fun ho=>?_;unfold jZ;simp only[oks,ok,and_true]at ho;simp(disch:=omega) [-zAa,jZ,small]
 repeat' (first|(refine BrKd.mk (fun h=>?_) (fun h=>?_)<;>simp(disch:=omega) [*])|(refine BrK.mk (fun h=>?_) (fun h=>?_)<;>simp(disch:=omega) [*]))
def de(b:UInt8):Bool:=small b||(48<=b.toNat&&b.toNat<=57)||decide (b.toNat=45)
def named:Str->Bool
 |[]=>false
 |b::s=>small b&&(b::s).all de
theorem jR(s:Str):Fn Tryz.prog xz [.str s] (.bool (named s)):=by
 refine Fn.of_image mixed yy x0 rfl fun ho=>?_;unfold fQ;simp only[oks,ok,and_true]at ho;cases s with
 |nil=>simp(disch:=omega) [-zAa,fQ,named]
 |cons b t=>
   simp(disch:=omega) [-zAa,fQ];refine ae (jQ b) rfl fun _=>?_;simp(disch:=omega) [-zAa];generalize hr:named (b::t)=r;generalize hs:b::t=s at *;refine an (fun k:Nat=>⟨[(0,.str s),(3,.bool (small b)),(4,.int .i64 k)],[]⟩) (fun k=>k<=s.length/\(small b&&(s.drop k).all de)=r) (fun k=>s.length-k) [] _ 0 rfl (by simp) (by simp[<-hr,<-hs,named]) ?_
   rintro k ⟨hk,hi⟩ N hN;rcases place s k hk with⟨he,hd⟩|⟨hlt,x,hx,hd⟩<;>rw[hd]at hi<;>replace hi:=hid hi
   ·simp(disch:=omega) [-zAa,he]
    simpa using hi.out
   ·simp(disch:=omega) [-zAa,hx]
    repeat' (first|(refine BrKd.mk (fun h=>?_) (fun h=>?_)<;>simp(disch:=omega) [*])|(refine BrK.mk (fun h=>?_) (fun h=>?_)<;>simp(disch:=omega) [*])|(refine ae (jQ _) rfl (fun _=>?_)<;>simp(disch:=omega) [*])|(refine aF (jQ _) rfl ?_<;>simp(disch:=omega) [*]))
    all_goals first
     |(refine hN.out _<|Nx.mk (k+1) (by simp[*]) ⟨by omega,?_⟩ (by omega);simpa(disch:=omega) [*,decide_eq_true,decide_eq_false,de]using hi.out)
     |(first|simpa(disch:=omega) [*,decide_eq_true,decide_eq_false,de]using hi.out.symm|simpa(disch:=omega) [*,decide_eq_true,decide_eq_false,de]using hi.out)
def plain(s:Str):Bool:=named s&&s.length<=16
theorem dh(s:Str):Fn Tryz.prog xr [.str s] (.bool (plain s)):=by
 refine Fn.of_image mixed yp xT rfl fun ho=>?_;unfold jW;simp only[oks,ok,and_true]at ho;simp(disch:=omega) [-zAa,jW,plain]
 repeat' (first|(refine BrKd.mk (fun h=>?_) (fun h=>?_)<;>simp(disch:=omega) [*])|(refine BrK.mk (fun h=>?_) (fun h=>?_)<;>simp(disch:=omega) [*])|(refine ae (jR _) rfl (fun _=>?_)<;>simp(disch:=omega) [*])|(refine aF (jR _) rfl ?_<;>simp(disch:=omega) [*]))
structure Attr where
 name:Str
 value:Str
structure Constraint where
 kind:Int
 words:List Str
 regex:Str
structure Rule where
 name:Str
 value:Constraint
 req:Bool
structure Allowed where
 name:Str
 kids:List Str
 rules:List Rule
structure Policy where
 top:List Str
 elements:List Allowed
 unwrap:List Str
@[simp] def Attr.v (a:Attr):V:=.strct [.str a.name,.str a.value]
def Constraint.c(c:Constraint):List V:=[.int .i64 c.kind,.seq 1 (c.words.map .str),.str c.regex]
@[simp] def Constraint.v (c:Constraint):V:=.strct c.c
@[simp] def Rule.v (r:Rule):V:=.strct [.str r.name,.int .i64 r.value.kind,.seq 1 (r.value.words.map .str),.str r.value.regex,.bool r.req]
@[simp] def Allowed.v (a:Allowed):V:=.strct [.str a.name,.seq 1 (a.kids.map .str),.seq 5 (a.rules.map Rule.v)]
@[simp] def Policy.v (p:Policy):V:=.strct [.seq 1 (p.top.map .str),.seq 3 (p.elements.map Allowed.v),.seq 1 (p.unwrap.map .str)]
attribute [simp] Constraint.c
def aU:List Allowed->Str->Option Allowed
 |[],_=>none
 |e::l,s=>if e.name=s then some e else aU l s
def Allowed.zero:Allowed:=⟨[],[],[]⟩
theorem lc(p:Policy)(s:Str):Fn Tryz.prog Ba [p.v,.str s] (.tup [((aU p.elements s).getD .zero).v,.bool (aU p.elements s).isSome]):=by
 refine Fn.of_image mixed BZ BF rfl fun ho=>?_;unfold lp;simp only[oks,ok,and_true]at ho;simp(disch:=omega) [-zAa,lp];generalize hr:aU p.elements s=r;refine an (fun k:Nat=>⟨[(1,.str s),(2,.ptr 0 0),(4,.ptr 1 0),(6,.int .i64 k)],[some (.box [.seq 1 (p.top.map .str),.seq 3 (p.elements.map Allowed.v),.seq 1 (p.unwrap.map .str)]),some (.box [.str [],.nil 1,.nil 5])]⟩) (fun k=>k<=p.elements.length/\aU (p.elements.drop k) s=r) (fun k=>p.elements.length-k) [] _ 0 rfl (by simp[*]) (by simp[*]) ?_
 rintro k ⟨hk,hi⟩ N hN;rcases place p.elements k hk with⟨he,hd⟩|⟨hlt,x,hx,hd⟩<;>rw[hd]at hi<;>replace hi:=hid hi
 ·simp(disch:=omega) [-zAa,he]
  simp[<-hi.out,aU,Allowed.zero]
 ·have hlen:p.elements.length<=140737488355328:=by have:=ho.1;simp at this;exact this.2.1.1
  simp(disch:=omega) [-zAa,hx]
  repeat' (first|(refine BrKd.mk (fun h=>?_) (fun h=>?_)<;>simp(disch:=omega) [*])|(refine BrK.mk (fun h=>?_) (fun h=>?_)<;>simp(disch:=omega) [*]))
  all_goals first
   |(refine hN.out _<|Nx.mk (k+1) (by simp[*]) ⟨by omega,?_⟩ (by omega);simpa(disch:=omega) [*,decide_eq_true,decide_eq_false,aU]using hi.out)
   |(have hi:=hi.out;simp[aU, *]at hi;subst hi;simp[*])
def eI(s:Str):Str×Bool:=match s[s.length-1]? with
 |some x=>if x.toNat=42 then(s.take (s.length-1),true)else(s,false)
 |none=>(s,false)
theorem rb(s:Str):Fn Tryz.prog A7 [.str s] (.tup [.str (eI s).1,.bool (eI s).2]):=by
 refine Fn.of_image mixed BV BB rfl fun ho=>?_;unfold iu;simp only[oks,ok,and_true]at ho;by_cases hp:0<s.length
 ·obtain⟨x,hx⟩:=a8 (l:=s) (k:=s.length-1) (by omega)
  simp(disch:=omega) [-zAa,iu];simp[hx]
  repeat' (first|(refine BrKd.mk (fun h=>?_) (fun h=>?_)<;>simp(disch:=omega) [*])|(refine BrK.mk (fun h=>?_) (fun h=>?_)<;>simp(disch:=omega) [*]))
  all_goals first|omega|simp[eI, *]
 ·have:s=[]:=by cases s;rfl;simp at hp
  subst this;simp(disch:=omega) [-zAa,iu,eI]
def hasS:List Str->Str->Bool
 |[],_=>false
 |x::l,s=>if x=s then true else hasS l s
theorem dJ(l:List Str)(s:Str):Fn Tryz.prog DB [.seq 1 (l.map .str),.str s] (.bool (hasS l s)):=by
 refine Fn.of_image mixed Ee D0 rfl fun ho=>?_;unfold ni;simp only[oks,ok,and_true]at ho;simp(disch:=omega) [-zAa,ni];generalize hr:hasS l s=r;refine an (fun k:Nat=>⟨[(0,.seq 1 (l.map .str)),(1,.str s),(5,.int .i64 k)],[]⟩) (fun k=>k<=l.length/\hasS (l.drop k) s=r) (fun k=>l.length-k) [] _ 0 rfl (by simp[*]) (by simp[*]) ?_
 rintro k ⟨hk,hi⟩ N hN;rcases place l k hk with⟨he,hd⟩|⟨hlt,x,hx,hd⟩<;>rw[hd]at hi<;>replace hi:=hid hi
 ·simp(disch:=omega) [-zAa,he]
  simpa[hasS]using hi.out
 ·have hlen:l.length<=140737488355328:=by have:=ho.1.1;simpa using this
  simp(disch:=omega) [-zAa,hx]
  repeat' (first|(refine BrKd.mk (fun h=>?_) (fun h=>?_)<;>simp(disch:=omega) [*])|(refine BrK.mk (fun h=>?_) (fun h=>?_)<;>simp(disch:=omega) [*]))
  all_goals first
   |(refine hN.out _<|Nx.mk (k+1) (by simp[*]) ⟨by omega,?_⟩ (by omega);simpa(disch:=omega) [*,decide_eq_true,decide_eq_false,hasS]using hi.out)
   |(first|simpa(disch:=omega) [*,decide_eq_true,decide_eq_false,hasS]using hi.out.symm|simpa(disch:=omega) [*,decide_eq_true,decide_eq_false,hasS]using hi.out)
def sign(b:UInt8):Bool:=32<=b.toNat&&b.toNat<=126
theorem oQ(s:Str):Fn Tryz.prog xv [.str s] (.bool (s.all sign)):=by
 refine Fn.of_image mixed yu xW rfl fun ho=>?_;unfold jY;simp only[oks,ok,and_true]at ho;simp(disch:=omega) [-zAa,jY];generalize hr:s.all sign=r;refine an (fun k:Nat=>⟨[(0,.str s),(3,.int .i64 k)],[]⟩) (fun k=>k<=s.length/\(s.drop k).all sign=r) (fun k=>s.length-k) [] _ 0 rfl (by simp[*]) (by simp[*]) ?_
 rintro k ⟨hk,hi⟩ N hN;rcases place s k hk with⟨he,hd⟩|⟨hlt,x,hx,hd⟩<;>rw[hd]at hi<;>replace hi:=hid hi
 ·simp(disch:=omega) [-zAa,he]
  simpa using hi.out
 ·simp(disch:=omega) [-zAa,hx]
  repeat' (first|(refine BrKd.mk (fun h=>?_) (fun h=>?_)<;>simp(disch:=omega) [*])|(refine BrK.mk (fun h=>?_) (fun h=>?_)<;>simp(disch:=omega) [*]))
  all_goals first
   |(refine hN.out _<|Nx.mk (k+1) (by simp[*]) ⟨by omega,?_⟩ (by omega);simpa(disch:=omega) [*,decide_eq_true,decide_eq_false,sign]using hi.out)
   |(first|simpa(disch:=omega) [*,decide_eq_true,decide_eq_false,sign]using hi.out.symm|simpa(disch:=omega) [*,decide_eq_true,decide_eq_false,sign]using hi.out)
def scheme(s:Str):Bool:=s.all small&&(1<=s.length&&s.length<=16)
theorem m3(s:Str):Fn Tryz.prog vu [.str s] (.bool (scheme s)):=by
 refine Fn.of_image mixed we vQ rfl fun ho=>?_;unfold i5;simp only[oks,ok,and_true]at ho;simp(disch:=omega) [-zAa,i5];generalize hr:scheme s=r;refine an (fun k:Nat=>⟨[(0,.str s),(3,.int .i64 k)],[]⟩) (fun k=>k<=s.length/\((s.drop k).all small&&(1<=s.length&&s.length<=16))=r) (fun k=>s.length-k) [] _ 0 rfl (by simp[*]) (by simp[*,<-hr,scheme]) ?_
 rintro k ⟨hk,hi⟩ N hN;rcases place s k hk with⟨he,hd⟩|⟨hlt,x,hx,hd⟩<;>rw[hd]at hi<;>replace hi:=hid hi
 ·simp(disch:=omega) [-zAa,he]
  repeat' (first|(refine BrKd.mk (fun h=>?_) (fun h=>?_)<;>simp(disch:=omega) [*])|(refine BrK.mk (fun h=>?_) (fun h=>?_)<;>simp(disch:=omega) [*]))
  all_goals (first|simpa(disch:=omega) [*,decide_eq_true,decide_eq_false,]using hi.out.symm|simpa(disch:=omega) [*,decide_eq_true,decide_eq_false,]using hi.out)
 ·simp(disch:=omega) [-zAa,hx]
  repeat' (first|(refine BrKd.mk (fun h=>?_) (fun h=>?_)<;>simp(disch:=omega) [*])|(refine BrK.mk (fun h=>?_) (fun h=>?_)<;>simp(disch:=omega) [*]))
  all_goals first
   |(refine hN.out _<|Nx.mk (k+1) (by simp[*]) ⟨by omega,?_⟩ (by omega);simpa(disch:=omega) [*,decide_eq_true,decide_eq_false,small]using hi.out)
   |(first|simpa(disch:=omega) [*,decide_eq_true,decide_eq_false,small]using hi.out.symm|simpa(disch:=omega) [*,decide_eq_true,decide_eq_false,small]using hi.out)
theorem dc{α:Type}{l:List α}{k:Nat}{x:α}(h:l[k]?=some x):l.take (k+1)=l.take k++[x]:=by rw[List.take_add_one,h];rfl
theorem take_drop{α:Type}{l:List α}{k j:Nat}{x:α}(h:l[j]?=some x)(hj:j<k):(l.take k).drop j=x::(l.take k).drop (j+1):=
 sx (by rw[zAf,if_pos hj,h])
def wordOK(sch:Bool)(x:Str):Bool:=if sch then scheme x else(x.all sign&&decide (x.length<=40))
def wordsGo(sch:Bool):List Str->List Str->Bool
 |_,[]=>true
 |pre,x::l=>wordOK sch x&&(!(hasS pre x)&&wordsGo sch (pre++[x]) l)
def words(l:List Str)(sch:Bool):Bool:=wordsGo sch [] l&&decide (l.length<=8)
theorem yQ (l:List Str) (sch:Bool):Fn Tryz.prog xu [.seq 1 (l.map .str),.bool sch] (.bool (words l sch)):=by
 refine Fn.of_image mixed yr xV rfl fun ho=>?_
 unfold jX
 simp only [oks,ok,and_true] at ho
 have hlen:l.length≤140737488355328:=by have:=ho.1; simpa using this
 simp (disch:=omega) [-zAa,jX]
 generalize hr:words l sch=r
 refine an (fun k:Nat=>⟨[(0,.seq 1 (l.map .str)),(1,.bool sch),(5,.int .i64 k)],[]⟩) (fun k=>k≤l.length∧(wordsGo sch (l.take k) (l.drop k) && decide (l.length≤8))=r) (fun k=>l.length - k) [] _ 0 rfl (by simp [*]) (by simp [*,←hr,words]) ?_
 rintro k ⟨hk,hi⟩ N hN
 rcases place l k hk with ⟨he,hd⟩ | ⟨hlt,x,hx,hd⟩<;>rw [hd] at hi<;>replace hi:=hid hi
 · simp (disch:=omega) [-zAa,he]
   simpa [wordsGo] using hi.out
 · rcases Bool.eq_false_or_eq_true sch with hsch | hsch
   all_goals
    simp (disch:=omega) [-zAa,hx]
    repeat' (first | (refine BrKd.mk (fun h=>?_) (fun h=>?_)<;>simp (disch:=omega) [*]) | (refine BrK.mk (fun h=>?_) (fun h=>?_)<;>simp (disch:=omega) [*]) | (refine ae (m3 _) rfl (fun _=>?_)<;>simp (disch:=omega) [*]) | (refine aF (m3 _) rfl ?_<;>simp (disch:=omega) [*]) | (refine ae (oQ _) rfl (fun _=>?_)<;>simp (disch:=omega) [*]) | (refine aF (oQ _) rfl ?_<;>simp (disch:=omega) [*]))
    all_goals first
     | (first | simpa (disch:=omega) [*,decide_eq_true,decide_eq_false,wordOK,wordsGo] using hi.out.symm | simpa (disch:=omega) [*,decide_eq_true,decide_eq_false,wordOK,wordsGo] using hi.out)
     | (have hi:=hi.out; simp (disch:=omega) [wordOK,wordsGo, *,decide_eq_true,decide_eq_false] at hi; replace hi:=hid hi
        refine an (fun j:Nat=>⟨[(0,.seq 1 (l.map .str)),(1,.bool sch),(5,.int .i64 k),(8,.int .i64 j)],[]⟩) (fun j=>j≤k∧hasS (l.take k) x=hasS ((l.take k).drop j) x) (fun j=>k - j) [] _ 0 rfl (by simp [*]) (by simp) ?_
        rintro j ⟨hj,hi2⟩ N2 hN2
        by_cases hlt2:j < k
        · obtain ⟨y,hy⟩:=a8 (l:=l) (k:=j) (by omega)
          rw [take_drop hy hlt2,hasS] at hi2; replace hi2:=hid hi2
          simp (disch:=omega) [*]
          repeat' (first | (refine BrKd.mk (fun h=>?_) (fun h=>?_)<;>simp (disch:=omega) [*]) | (refine BrK.mk (fun h=>?_) (fun h=>?_)<;>simp (disch:=omega) [*]))
          all_goals first
           | (refine hN2.out _<|Nx.mk (j + 1) (by simp [*]) ⟨by omega,?_⟩ (by omega); rw [hi2.out,if_neg h])
           | (have hi2:=hi2.out; rw [if_pos h] at hi2; have hi:=hi.out; simp [hi2] at hi; simp [hi])
        · have:(l.take k).drop j=[]:=by simp; omega
          rw [this,hasS] at hi2
          have hi:=hi.out; simp [hi2] at hi; replace hi:=hid hi
          simp (disch:=omega) [*]
          refine hN.out _<|Nx.mk (k + 1) (by simp [*]) ⟨by omega,?_⟩ (by omega)
          rw [dc hx]; simpa [*] using hi.out)
def sumB:Str->Nat
 |[]=>0
 |b::s=>b.toNat+sumB s
def pool12:List Str:=[[97,42],[40,97,124,98,41,43],[91,48,45,57,93,43],[120,46,121],[91,94,97,93,42],[],[97,124,98,98,124,99]]
def pickW(sch:Bool):List Str->List Str->List Str
 |out,[]=>out
 |out,w::l=>pickW sch (if words (out++[w]) sch then out++[w]else out) l
def kind12(k:Int):Int:=1+(if k<0 then -(k+1)else k)%4
def good12(c:Constraint):Constraint:=
 let k:=kind12 c.kind
 if k=4 then⟨4,[],(pool12[sumB c.regex%7]?).getD []⟩
 else
  let ws:=if k=1 then[]else pickW (decide (k=3)) [] (c.words.take 4)
  ⟨k,if k=2/\ws=[]then[[120]]else ws,[]⟩
theorem kind12_range(k:Int):1<=kind12 k/\kind12 k<=4:=by
 unfold kind12;have h:0<=(if k<0 then -(k+1)else k):=by split<;>omega
 generalize(if k<0 then -(k+1)else k)=m at h
 omega
theorem pickW_len(sch:Bool):∀(l out:List Str),(pickW sch out l).length<=out.length+l.length
 |[],out=>by simp[pickW]
 |w::l,out=>by
   simp only[pickW];split
   ·have:=pickW_len sch l (out++[w]);simp at this⊢;omega
   ·have:=pickW_len sch l out;simp at this⊢;omega
theorem rc(c:Constraint)(hR:c.regex.length<=1125899906842624):Fn Tryz.prog Bb [c.v] (good12 c).v:=by
 refine Fn.of_image mixed B0 BG rfl fun ho=>?_;unfold lr;simp only[oks,ok,and_true]at ho;obtain⟨kd,ws,rx⟩:=c;simp at ho hR;generalize hg:good12 ⟨kd,ws,rx⟩=g;have hrg:=kind12_range kd;have hgd:g=good12 ⟨kd,ws,rx⟩:=hg.symm;simp only[good12]at hgd;simp(disch:=omega) [-zAa,lr];refine BrKd.mk (fun h=>?_) (fun h=>?_)
 all_goals
  first
   |(have e:1+ -(kd+1)%4=kind12 kd:=by rw[kind12,if_pos h])
   |(have e:1+kd%4=kind12 kd:=by rw[kind12,if_neg h])
  simp(disch:=omega) [-zAa];rw[e];clear e;generalize kind12 kd=q at *;refine BrKd.mk (fun hq=>?_) (fun hq=>?_)
  ·simp(disch:=omega) [-zAa]
   refine an (fun(p:Nat×Nat)=>⟨[(1,.ptr 0 0),(2,.ptr 1 0),(4,.ptr 2 0),(5,.seq 1 (pool12.map .str)),(6,.int .i64 p.2),(7,.int .i64 p.1)],
    [some (.box [.int .i64 kd,.seq 1 (ws.map .str),.str rx]),some (.box [.int .i64 0,.nil 1,.str []]),some (.box [.int .i64 q,.nil 1,.str []])]⟩)
    (fun p=>p.1<=rx.length/\p.2<=255*p.1/\p.2+sumB (rx.drop p.1)=sumB rx) (fun p=>rx.length-p.1) [] _ (0,0) rfl (by simp[pool12]) (by simp) ?_
   rintro⟨k,n⟩ ⟨hk,hn,hi⟩ N hN;simp only at hk hn hi;rcases place rx k hk with⟨he,hd⟩|⟨hlt,x,hx,hd⟩<;>rw[hd,sumB]at hi
   ·have hm:n%7<7:=zDb _ (by decide)
    have ht:((n:Int)%7).toNat=n%7:=by omega
    obtain⟨y,hy⟩:=a8 (l:=pool12) (k:=n%7) hm;have hpl:pool12.length=7:=rfl;subst hq;rw[if_pos rfl]at hgd;simp only[zDd]at hi;simp(disch:=omega) [-zAa,he,hpl,ht,hy];rw[hi]at hy;simp[hgd,hy]
   ·have hx8:=x.toNat_lt
    simp(disch:=omega) [-zAa,hx];refine hN.out _<|Nx.mk (k+1,n+x.toNat) (by simp) ⟨by simp only;omega,by simp only;omega,by simp only;omega⟩ (by simp only;omega)
  ·rw[if_neg hq]at hgd
   generalize hw:(if q=1 then[]else pickW (decide (q=3)) [] (zAb 4 ws))=w at hgd
   have hl4:(zAb 4 ws).length=min 4 ws.length:=zAe;simp(disch:=omega) [-zAa]
   refine an (fun(p:Nat×List Str)=>⟨[(1,.ptr 0 0),(2,.ptr 1 0),(4,.ptr 2 0),(8,.int .i64 p.1)],
    [some (.box [.int .i64 kd,.seq 1 (ws.map .str),.str rx]),some (.box [.int .i64 0,.nil 1,.str []]),some (.box [.int .i64 q,.ref 3 p.2.length,.str []]),some (.arr au 1 (p.2.map .str))]⟩)
    (fun p=>p.1<=(zAb 4 ws).length/\p.2.length<=p.1/\(if q=1 then p.2 else pickW (decide (q=3)) p.2 ((zAb 4 ws).drop p.1))=w) (fun p=>(zAb 4 ws).length-p.1) [.b 2 1 au 1] _ (0,[]) rfl (by simp) (by simp[hw]) ?_
   rintro⟨k,out⟩ ⟨hk,hol,hi⟩ N hN;simp only at hk hol hi;by_cases hq1:q=1
   ·rw[if_pos hq1]at hi
    subst hi;simp(disch:=omega) [-zAa,hq1]
    repeat' (first|(refine BrKd.mk (fun h=>?_) (fun h=>?_)<;>simp(disch:=omega) [*])|(refine BrK.mk (fun h=>?_) (fun h=>?_)<;>simp(disch:=omega) [*]))
    all_goals first|omega|simp[hgd,hq1]
   ·rw[if_neg hq1]at hi
    rcases place (zAb 4 ws) k hk with⟨he,hd⟩|⟨hlt,x,hx,hd⟩<;>rw[hd,pickW]at hi
    ·subst hi
     clear hw;simp(disch:=omega) [-zAa]
     repeat' (first|(refine BrKd.mk (fun h=>?_) (fun h=>?_)<;>simp(disch:=omega) [*])|(refine BrK.mk (fun h=>?_) (fun h=>?_)<;>simp(disch:=omega) [*]))
     all_goals first|omega|(cases out<;>simp_all)|simp[*]
    ·have hx2:ws[k]?=some x:=by rw[zAf]at hx;simpa[show k<4 by omega]using hx
     replace hi:=hid hi;simp(disch:=omega) [-zAa,hx2,hq1];refine ae (by simpa using yQ (out++[x]) (decide (q=3))) rfl fun _=>?_
     simp(disch:=omega) [-zAa];refine BrK.mk (fun hb=>?_) (fun hb=>?_)
     ·simp(disch:=omega) [-zAa]
      refine hN.out _<|Nx.mk (k+1,out++[x]) (by simp) ⟨by simp only;omega,by simp;omega,?_⟩ (by simp only;omega)
      have hi:=hi.out;rw[if_pos hb]at hi;simpa[hq1]using hi
     ·simp(disch:=omega) [-zAa]
      refine hN.out _<|Nx.mk (k+1,out) (by simp) ⟨by simp only;omega,by simp only;omega,?_⟩ (by simp only;omega)
      have hi:=hi.out;rw[if_neg (by simp[hb])]at hi
      simpa[hq1]using hi
theorem KX{P:Program}{d f vs us}{K:St->Prop}{σ:St}{r:V}(h:Fn P f us r)(hf:bU (jk r)=true)(k:ok (jk r)->K (σ.put d (jk r))):jh (Cn P) d f vs us K σ:=ae (Fn.jk h) hf k
theorem MW{l:List V}{sz:Nat}:bU (if l=[]then V.seq sz l else V.junk)=true:=by split<;>simp[bU, *]
theorem MV{α:Type}{f:α->V}{l:List α}{sz:Nat}:bU (if l=[]then V.seq sz (l.map f)else V.junk)=true:=by split<;>simp[bU, *]
theorem Ai:∀{l:List Str},cY (l.map V.str)=true
 |[]=>rfl
 |_::l=>by simp[cY,bU,Ai (l:=l)]
attribute [simp] MW MV Ai
def AL(s:Str):Bool:=decide (s=[98,114])||(decide (s=[104,114])||(decide (s=[105,109,103])||(decide (s=[105,110,112,117,116])||decide (s=[119,98,114]))))
theorem rf(s:Str):Fn Tryz.prog Bg [.str s] (.bool (AL s)):=by
 refine Fn.of_image mixed B7 BM rfl fun ho=>?_;unfold lu;simp only[oks,ok,and_true]at ho;simp(disch:=omega) [-zAa,lu,AL]
 repeat' (first|(refine BrKd.mk (fun h=>?_) (fun h=>?_)<;>simp(disch:=omega) [*])|(refine BrK.mk (fun h=>?_) (fun h=>?_)<;>simp(disch:=omega) [*]))
def raw(s:Str):Bool:=decide (s=[115,99,114,105,112,116])||decide (s=[115,116,121,108,101])
theorem tl(s:Str):Fn Tryz.prog DE [.str s] (.bool (raw s)):=by
 refine Fn.of_image mixed Eh D3 rfl fun ho=>?_;unfold nk;simp only[oks,ok,and_true]at ho;simp(disch:=omega) [-zAa,nk,raw]
 repeat' (first|(refine BrKd.mk (fun h=>?_) (fun h=>?_)<;>simp(disch:=omega) [*])|(refine BrK.mk (fun h=>?_) (fun h=>?_)<;>simp(disch:=omega) [*]))
def bh(o:Str):List Str:=
 if o=[112]then[[98,108,111,99,107,113,117,111,116,101],[100,105,118],[104,49],[104,50],[104,114],[108,105],[111,108],[112],[112,114,101],[116,97,98,108,101],[117,108]]
 else if o=[108,105]then[[108,105]]
 else if o=[100,116]\/o=[100,100]then[[100,100],[100,116]]
 else if o=[111,112,116,105,111,110]then[[111,112,116,105,111,110]]
 else if o=[116,100]then[[116,100],[116,114]]
 else if o=[116,114]then[[116,114]]
 else[]
def jT(o b:Str):Bool:=hasS (bh o) b
theorem m4(o b:Str):Fn Tryz.prog vv [.str o,.str b] (.bool (jT o b)):=by
 refine Fn.of_image mixed wh vS rfl fun ho=>?_;unfold i6;simp only[oks,ok,and_true]at ho;simp(disch:=omega) [-zAa,i6];generalize hr:jT o b=r;have hlen:(bh o).length<=11:=by unfold bh;repeat' (split<;>try simp)
 repeat' (first|(refine BrKd.mk (fun h=>?_) (fun h=>?_)<;>simp(disch:=omega) [*])|(refine BrK.mk (fun h=>?_) (fun h=>?_)<;>simp(disch:=omega) [*]))
 all_goals
  by_cases hc:bh o=[]
  ·refine an (fun k:Nat=>⟨[(1,.str b),(5,.nil 1),(6,.int .i64 0)],[]⟩) (fun k=>k=0) (fun k=>0-k) [] _ 0 rfl (by revert hc;simp[*,bh]) rfl ?_
   rintro k rfl N hN;simp[<-hr,jT,hc,hasS]
  refine an (fun k:Nat=>⟨[(1,.str b),(5,.seq 1 ((bh o).map .str)),(6,.int .i64 k)],[]⟩) (fun k=>k<=(bh o).length/\hasS ((bh o).drop k) b=r) (fun k=>(bh o).length-k) [] _ 0 rfl (by revert hc;simp[*,bh]) (by simp[<-hr,jT]) ?_
  clear hr hc;generalize bh o=l at *;rintro k ⟨hk,hi⟩ N hN;rcases place l k hk with⟨he,hd⟩|⟨hlt,x,hx,hd⟩<;>rw[hd]at hi<;>replace hi:=hid hi
  ·simp(disch:=omega) [-zAa,he]
   simpa[hasS]using hi.out
  ·simp(disch:=omega) [-zAa,hx]
   repeat' (first|(refine BrKd.mk (fun h=>?_) (fun h=>?_)<;>simp(disch:=omega) [*])|(refine BrK.mk (fun h=>?_) (fun h=>?_)<;>simp(disch:=omega) [*]))
   all_goals first
    |(refine hN.out _<|Nx.mk (k+1) (by simp[*]) ⟨by omega,?_⟩ (by omega);simpa(disch:=omega) [*,decide_eq_true,decide_eq_false,hasS]using hi.out)
    |(first|simpa(disch:=omega) [*,decide_eq_true,decide_eq_false,hasS]using hi.out.symm|simpa(disch:=omega) [*,decide_eq_true,decide_eq_false,hasS]using hi.out)
def zN:List Str->List Str->Bool
 |_,[]=>true
 |pre,x::l=>!hasS pre x&&zN (pre++[x]) l
def I1(l:List Str):Bool:=zN [] l
theorem Cj(l:List Str):Fn Tryz.prog A8 [.seq 1 (l.map .str)] (.bool (I1 l)):=by
 refine Fn.of_image mixed BW BC rfl fun ho=>?_;unfold lm;simp only[oks,ok,and_true]at ho;have hlen:l.length<=140737488355328:=by have:=ho.1;simpa using this
 simp(disch:=omega) [-zAa,lm];generalize hr:I1 l=r;refine an (fun k:Nat=>⟨[(0,.seq 1 (l.map .str)),(3,.int .i64 k)],[]⟩) (fun k=>k<=l.length/\zN (l.take k) (l.drop k)=r) (fun k=>l.length-k) [] _ 0 rfl (by simp[*]) (by simp[*,<-hr,I1]) ?_
 rintro k ⟨hk,hi⟩ N hN;rcases place l k hk with⟨he,hd⟩|⟨hlt,x,hx,hd⟩<;>rw[hd]at hi<;>replace hi:=hid hi
 ·simp(disch:=omega) [-zAa,he]
  simpa[zN]using hi.out
 ·simp(disch:=omega) [-zAa,hx]
  refine aF (by simpa[List.map_take]using dJ (l.take k) x) rfl ?_
  simp(disch:=omega) [-zAa];refine BrK.mk (fun h=>?_) (fun h=>?_)
  ·simp(disch:=omega) [-zAa]
   have hi:=hi.out;simpa[zN,h]using hi
  ·simp(disch:=omega) [-zAa]
   refine hN.out _<|Nx.mk (k+1) (by simp[*]) ⟨by omega,?_⟩ (by omega)
   have hi:=hi.out;simp[zN,h]at hi;rw[dc hx];exact hi
def eD:Str:=[35,116,101,120,116]
def bD:Str:=[35,99,111,109,109,101,110,116]
def oH(p:Policy)(par x:Str):Bool:=!(AL par||(raw par&& !decide (x=eD)))&&((decide (x=eD)||decide (x=bD))||((aU p.elements x).isSome&& !jT par x))
def kids(p:Policy)(par:Str)(l:List Str):Bool:=l.all (oH p par)&&I1 l
theorem Ck(p:Policy)(par:Str)(l:List Str):Fn Tryz.prog A9 [p.v,.str par,.seq 1 (l.map .str)] (.bool (kids p par l)):=by
 refine Fn.of_image mixed BX BD rfl fun ho=>?_;unfold ln;simp only[oks,ok,and_true]at ho;have hlen:l.length<=140737488355328:=by have:=ho.2.2.1;simpa using this
 simp(disch:=omega) [-zAa,ln];refine ae (rf _) rfl fun _=>?_;simp(disch:=omega) [-zAa];refine ae (tl _) rfl fun _=>?_;simp(disch:=omega) [-zAa];generalize hr:kids p par l=r;refine an (fun k:Nat=>⟨[(1,.str par),(2,.seq 1 (l.map .str)),(3,.ptr 0 0),(7,.bool (AL par)),(8,.bool (raw par)),(9,.int .i64 k)],[some (.box [.seq 1 (p.top.map .str),.seq 3 (p.elements.map Allowed.v),.seq 1 (p.unwrap.map .str)])]⟩) (fun k=>k<=l.length/\((l.drop k).all (oH p par)&&I1 l)=r) (fun k=>l.length-k) [] _ 0 rfl (by simp[*]) (by simp[*,<-hr,kids]) ?_
 rintro k ⟨hk,hi⟩ N hN;rcases place l k hk with⟨he,hd⟩|⟨hlt,x,hx,hd⟩<;>rw[hd]at hi<;>replace hi:=hid hi
 ·simp(disch:=omega) [-zAa,he]
  refine ae (Cj _) rfl fun _=>?_;have hi:=hi.out;simp at hi;simp(disch:=omega) [-zAa,hi]
 ·simp only[zBh]at hi
  have hfin:oH p par x=false->r=false:=fun h=>by have hi:=hi.out;rw[h]at hi;simpa using hi.symm
  have hgo:oH p par x=true->((l.drop (k+1)).all (oH p par)&&I1 l)=r:=fun h=>by have hi:=hi.out;rw[h]at hi;simpa using hi
  replace hfin:=hid hfin;replace hgo:=hid hgo;simp(disch:=omega) [-zAa,hx]
  repeat' (first
   |(refine BrKd.mk (fun h=>?_) (fun h=>?_)<;>simp(disch:=omega) [*])
   |(refine BrK.mk (fun h=>?_) (fun h=>?_)<;>simp(disch:=omega) [*])
   |(refine aF (Fn.jk (lc p x)) (by simp) ?_<;>simp(disch:=omega) [*])
   |(refine ae (m4 par x) rfl (fun _=>?_)<;>simp(disch:=omega) [*]))
  all_goals
   cases hf:aU p.elements x
   all_goals
    first
    |(exfalso;simp_all;done)
    |(refine hN.out _<|Nx.mk (k+1) (by simp[*]) ⟨by omega,hgo.out ?_⟩ (by omega);simp_all[oH,eD,bD];done)
    |(rw[hfin.out ?_];simp_all[oH,eD,bD];done)
    |(refine(hfin.out ?_).symm;simp_all[oH,eD,bD];done)
    |(refine(hfin.out ?_);simp_all[oH,eD,bD];done)
def oP(p:Policy)(par:Str):List Str->List Str->List Str
 |out,[]=>out
 |out,x::l=>oP p par (if kids p par (out++[x])then out++[x]else out) l
def dW(p:Policy)(par:Str)(l:List Str):List Str:=oP p par [] (l.take 8)
theorem so(p:Policy)(par:Str):∀(l out:List Str),(oP p par out l).length<=out.length+l.length
 |[],out=>by simp[oP]
 |w::l,out=>by
   simp only[oP];split
   ·have:=so p par l (out++[w]);simp at this⊢;omega
   ·have:=so p par l out;simp at this⊢;omega
theorem tj(p:Policy)(par:Str)(l:List Str):(dW p par l).length<=8:=by
 have:=so p par (l.take 8) [];simp at this;simp only[dW];omega
theorem el(p:Policy)(par:Str)(l:List Str):FnN Tryz.prog tO [p.v,.str par,.seq 1 (l.map .str)] (.seq 1 ((dW p par l).map .str)):=by
 refine FnN.of_image mixed t8 tV rfl fun ho=>?_;have hlen:l.length<=140737488355328:=by have:=ho.2.2.1.1;simpa using this
 unfold lS;simp(disch:=omega) [-zAa];generalize hw:dW p par l=w;have hl8:(zAb 8 l).length=min 8 l.length:=zAe
 refine an (fun(q:Nat×List Str)=>⟨[(1,.str par),(2,.seq 1 (l.map .str)),(3,.ptr 0 0),(7,.ref 1 q.2.length),(8,.int .i64 q.1)],
  [some (.box [.seq 1 (p.top.map .str),.seq 3 (p.elements.map Allowed.v),.seq 1 (p.unwrap.map .str)]),some (.arr au 1 (q.2.map .str))]⟩)
  (fun q=>q.1<=(zAb 8 l).length/\q.2.length<=q.1/\oP p par q.2 ((zAb 8 l).drop q.1)=w) (fun q=>(zAb 8 l).length-q.1) [.r 7 au 1] _ (0,[]) rfl (by simp) (by simp[<-hw,dW]) ?_
 rintro⟨k,out⟩ ⟨hk,hol,hi⟩ N hN;simp only at hk hol hi;rcases place (zAb 8 l) k hk with⟨he,hd⟩|⟨hlt,x,hx,hd⟩<;>rw[hd,oP]at hi
 ·subst hi
  simp(disch:=omega) [-zAa]
  repeat' (first|(refine BrKd.mk (fun h=>?_) (fun h=>?_)<;>simp(disch:=omega) [*])|(refine BrK.mk (fun h=>?_) (fun h=>?_)<;>simp(disch:=omega) [*]))
  all_goals first|omega|simp[*]
 ·have hx2:l[k]?=some x:=by rw[zAf]at hx;simpa[show k<8 by omega]using hx
  replace hi:=hid hi;simp(disch:=omega) [-zAa,hx2];refine ae (by simpa using Ck p par (out++[x])) rfl fun _=>?_
  simp(disch:=omega) [-zAa];refine BrK.mk (fun hb=>?_) (fun hb=>?_)
  ·simp(disch:=omega) [-zAa]
   refine hN.out _<|Nx.mk (k+1,out++[x]) (by simp) ⟨by simp only;omega,by simp;omega,?_⟩ (by simp only;omega)
   have hi:=hi.out;rw[if_pos hb]at hi;simpa using hi
  ·simp(disch:=omega) [-zAa]
   refine hN.out _<|Nx.mk (k+1,out) (by simp) ⟨by simp only;omega,by simp only;omega,?_⟩ (by simp only;omega)
   have hi:=hi.out;rw[if_neg (by simp[hb])]at hi
   simpa using hi
end Go.Abs.F
end
section
namespace Go.Abs.F
open Go.Proofs
attribute [-simp] getElem?_pos zCh
def vd:List Str:=[[105,100],[104,114,101,102],[100,97,116,97,45,42]]
def cX(i:Nat)(r:Rule):Rule:=
 if plain (eI r.name).1 then⟨r.name,good12 r.value,!(eI r.name).2&&r.req⟩
 else⟨(vd[i]?).getD [],good12 r.value,!decide (i=2)&&r.req⟩
def ek:Nat->List Rule->List Rule->List Rule
 |_,out,[]=>out
 |i,out,r::l=>ek (i+1) (if hasS (out.map Rule.name) (cX i r).name then out else out++[cX i r]) l
def du(l:List Rule):List Rule:=ek 0 [] (l.take 3)
theorem mo:∀(l out:List Rule)(i:Nat),(ek i out l).length<=out.length+l.length
 |[],out,i=>by simp[ek]
 |w::l,out,i=>by
   simp only[ek];split
   ·have:=mo l out (i+1);simp at this⊢;omega
   ·have:=mo l (out++[cX i w]) (i+1);simp at this⊢;omega
theorem De(l:List Rule):(du l).length<=3:=by
 have:=mo (l.take 3) [] 0;simp at this;simp only[du];omega
theorem yP(l:List Rule)(hR:∀r∈l,r.value.regex.length<=1125899906842624):Fn Tryz.prog oE [.seq 5 (l.map Rule.v)] (.seq 5 ((du l).map Rule.v)):=by
 refine Fn.of_image mixed yo xS rfl fun ho=>?_;unfold jV;simp only[oks,ok,and_true]at ho;have hlen:l.length<=140737488355328:=by have:=ho.1;simpa using this
 clear ho;simp(disch:=omega) [-zAa,jV];generalize hw:du l=w;have hl3:(zAb 3 l).length=min 3 l.length:=zAe
 refine an (fun(q:Nat×List Rule)=>⟨[(0,.seq 5 (l.map Rule.v)),(3,.ref 0 q.2.length),(4,.ref 1 q.2.length),(5,.int .i64 q.1)],
  [some (.arr ax 5 (q.2.map Rule.v)),some (.arr au 1 ((q.2.map Rule.name).map .str))]⟩)
  (fun q=>q.1<=(zAb 3 l).length/\q.2.length<=q.1/\ek q.1 q.2 ((zAb 3 l).drop q.1)=w) (fun q=>(zAb 3 l).length-q.1) [.r 3 ax 5,.r 4 au 1] _ (0,[]) rfl (by simp) (by simp[<-hw,du]) ?_
 rintro⟨k,out⟩ ⟨hk,hol,hi⟩ N hN;simp only at hk hol hi;rcases place (zAb 3 l) k hk with⟨he,hd⟩|⟨hlt,x,hx,hd⟩<;>rw[hd,ek]at hi
 ·subst hi
  clear hw;simp(disch:=omega) [-zAa]
  repeat' (first|(refine BrKd.mk (fun h=>?_) (fun h=>?_)<;>simp(disch:=omega) [*])|(refine BrK.mk (fun h=>?_) (fun h=>?_)<;>simp(disch:=omega) [*]))
  all_goals first|omega|simp[*]
 ·have hx2:l[k]?=some x:=by rw[zAf]at hx;simpa[show k<3 by omega]using hx
  have hRx:=hR x (zAc hx2);replace hi:=hid hi;simp(disch:=omega) [-zAa,hx2];refine eA (rc x.value hRx) (by simp) ?_
  simp(disch:=omega) [-zAa,hx2];refine ae (rb _) rfl fun _=>?_;simp(disch:=omega) [-zAa,hx2];refine ae (dh _) rfl fun _=>?_;have hk3:k<3:=by omega
  obtain⟨pn,hpn⟩:∃pn,vd[k]?=some pn:=a8 (l:=vd) (k:=k) (by simpa[vd]using hk3)
  have hpn2:([.str [105,100],.str [104,114,101,102],.str [100,97,116,97,45,42]]:List V)[k]?=some (.str pn):=by
   have:(vd.map V.str)[k]?=some (.str pn):=by rw[zBi,hpn];rfl
   exact this
  have fin:∀g:Rule,cX k x=g->∀τ:St,τ.nrm [0,3,4,5]=⟨[(0,.seq 5 (l.map Rule.v)),(3,.ref 0 (if hasS (out.map Rule.name) g.name then out else out++[g]).length),(4,.ref 1 (if hasS (out.map Rule.name) g.name then out else out++[g]).length),(5,.int .i64 ((k+1:Nat):Int))],
   [some (.arr ax 5 ((if hasS (out.map Rule.name) g.name then out else out++[g]).map Rule.v)),some (.arr au 1 (((if hasS (out.map Rule.name) g.name then out else out++[g]).map Rule.name).map .str))]⟩->N τ:=by
   intro g hg τ hτ;have hi:=hi.out;rw[hg]at hi;refine hN.out _<|Nx.mk (k+1,if hasS (out.map Rule.name) g.name then out else out++[g]) hτ ⟨by simp only;omega,?_,hi⟩ (by simp only;omega)
   split<;>simp<;>omega
  simp(disch:=omega) [-zAa,hx2];refine BrK.mk (fun hb=>?_) (fun hb=>?_)
  ·simp(disch:=omega) [-zAa,hx2]
   refine BrK.mk (fun hm=>?_) (fun hm=>?_)
   all_goals
    simp(disch:=omega) [-zAa,hm,hx2];refine ae (by simpa using dJ (out.map Rule.name) x.name) rfl fun _=>?_
    simp(disch:=omega) [-zAa,hx2];refine BrK.mk (fun hh=>?_) (fun hh=>?_)
    all_goals
     simp(disch:=omega) [-zAa,hh,hx2];refine fin _ (by simp only[cX,hb,if_true,hm,Bool.not_true,Bool.not_false,Bool.true_and,Bool.false_and];rfl) _ ?_
     simp[hh]
  ·simp(disch:=omega) [-zAa,hpn2,hx2]
   have hb':cX k x=⟨pn,good12 x.value,!decide (k=2)&&x.req⟩:=by simp[cX,hb,hpn]
   refine BrKd.mk (fun hm=>?_) (fun hm=>?_)
   all_goals
    simp(disch:=omega) [-zAa,hm,hx2];refine ae (by simpa using dJ (out.map Rule.name) pn) rfl fun _=>?_
    simp(disch:=omega) [-zAa,hx2];refine BrK.mk (fun hh=>?_) (fun hh=>?_)
    all_goals
     simp(disch:=omega) [-zAa,hh,hx2];refine fin _ hb' _ ?_;simp[hh,hm]
def ve:List Str:=[[97],[98],[112],[98,114],[115,116,121,108,101]]
def iZ(i:Nat)(s:Str):Str:=if plain s then s else(ve[i]?).getD []
def gz:Nat->List Allowed->List Allowed->List Allowed
 |_,out,[]=>out
 |i,out,e::l=>gz (i+1) (if(aU out (iZ i e.name)).isSome then out else out++[⟨iZ i e.name,[],du e.rules⟩]) l
theorem ky:∀(l out:List Allowed)(i:Nat),(gz i out l).length<=out.length+l.length
 |[],out,i=>by simp[gz]
 |w::l,out,i=>by
   simp only[gz];split
   ·have:=ky l out (i+1);simp at this⊢;omega
   ·have:=ky l (out++[⟨iZ i w.name,[],du w.rules⟩]) (i+1);simp at this⊢;omega
def dt(els:List Allowed)(k:Nat)(own:List Str):List Allowed:=
 match els[k]? with
 |some e=>els.set k ⟨e.name,dW ⟨[],els,[]⟩ e.name own,e.rules⟩
 |none=>els
def dp:Nat->List Allowed->List Allowed->List Allowed
 |_,els,[]=>els
 |k,els,e::l=>dp (k+1) (dt els k e.kids) l
theorem C7(els:List Allowed)(k:Nat)(own:List Str):(dt els k own).length=els.length:=by
 unfold dt;split<;>simp
def lz:List Str->List Str->List Str
 |out,[]=>out
 |out,x::l=>lz (if plain x&& !hasS out x then out++[x]else out) l
def bo(p:Policy):Policy:=
 let a:=gz 0 [] (p.elements.take 5)
 let b:=dp 0 a (p.elements.take a.length)
 ⟨dW ⟨[],b,[]⟩ [] p.top,b,lz [] (p.unwrap.take 4)⟩
theorem Cl(p:Policy)(hR:∀e∈p.elements,∀r∈e.rules,r.value.regex.length<=1125899906842624):Fn Tryz.prog qG [p.v] (bo p).v:=by
 refine Fn.of_image mixed BY BE rfl fun ho=>?_;unfold ry;simp only[oks,ok,and_true]at ho;have hlt:p.top.length<=140737488355328:=by have:=ho;simp at this;exact this.1.1
 have hle:p.elements.length<=140737488355328:=by have:=ho;simp at this;exact this.2.1.1
 have hlu:p.unwrap.length<=140737488355328:=by have:=ho;simp at this;exact this.2.2.1
 clear ho;simp(disch:=omega) [-zAa];generalize hg:bo p=g;have hgd:g=bo p:=hg.symm;simp only[bo]at hgd;have hl5:(zAb 5 p.elements).length=min 5 p.elements.length:=zAe;have hal:=ky (p.elements.take 5) [] 0;generalize ha:gz 0 [] (p.elements.take 5)=els at hgd hal
 refine an (fun(q:Nat×List Allowed)=>⟨[(1,.ptr 0 0),(2,.ptr 1 0),(3,.ptr 2 0),(4,.int .i64 q.1)],
  [some (.box [.seq 1 (p.top.map .str),.seq 3 (p.elements.map Allowed.v),.seq 1 (p.unwrap.map .str)]),some (.box [.nil 1,.nil 3,.nil 1]),some (.box [.nil 1,.ref 3 q.2.length,.nil 1]),some (.arr ak 3 (q.2.map Allowed.v))]⟩)
  (fun q=>q.1<=(zAb 5 p.elements).length/\q.2.length<=q.1/\gz q.1 q.2 ((zAb 5 p.elements).drop q.1)=els) (fun q=>(zAb 5 p.elements).length-q.1) [.b 2 1 ak 3] _ (0,[]) rfl (by simp) (by simp[<-ha]) ?_
 rintro⟨k,out⟩ ⟨hk,hol,hi⟩ N hN;simp only at hk hol hi;rcases place (zAb 5 p.elements) k hk with⟨he,hd⟩|⟨hlt,x,hx,hd⟩<;>rw[hd,gz]at hi
 ·subst hi
  have hol5:out.length<=p.elements.length/\out.length<=5:=by simp only[zBe]at hal;omega
  have hkk:(k<p.elements.length/\k=5)\/k=p.elements.length:=by omega
  clear hd hN hol hk he hal ha;generalize hb:dp 0 out (p.elements.take out.length)=bs at hgd;rcases hkk with hkk|hkk
  all_goals
   simp(disch:=omega) [-zAa,hkk]
   refine an (fun(q:Nat×List Allowed)=>⟨[(1,.ptr 0 0),(2,.ptr 1 0),(3,.ptr 2 0),(10,.int .i64 q.1)],
    [some (.box [.seq 1 (p.top.map .str),.seq 3 (p.elements.map Allowed.v),.seq 1 (p.unwrap.map .str)]),some (.box [.nil 1,.nil 3,.nil 1]),some (.box [.nil 1,.ref 3 q.2.length,.nil 1]),some (.arr ak 3 (q.2.map Allowed.v))]⟩)
    (fun q=>q.1<=(p.elements.take out.length).length/\q.2.length=out.length/\dp q.1 q.2 ((p.elements.take out.length).drop q.1)=bs) (fun q=>(p.elements.take out.length).length-q.1) [] _ (0,out) rfl (by simp) (by simp[<-hb]) ?_
   have hlo:(p.elements.take out.length).length=out.length:=by rw[zAe];omega
   rintro⟨k,els⟩ ⟨hk,hol,hi⟩ N hN;simp only at hk hol hi;rcases place (p.elements.take out.length) k hk with⟨he,hd⟩|⟨hlt,x,hx,hd⟩<;>rw[hd,dp]at hi
   ·subst hi
    simp(disch:=omega) [-zAa,he];refine zd (by simpa using el ⟨[],els,[]⟩ [] p.top) fun hok=>?_
    simp(disch:=omega) [-zAa];generalize hu:lz [] (p.unwrap.take 4)=us at hgd;have hl4:(zAb 4 p.unwrap).length=min 4 p.unwrap.length:=zAe;clear hN
    refine an (fun(q:Nat×List Str)=>⟨[(1,.ptr 0 0),(2,.ptr 1 0),(3,.ptr 2 0),(12,.int .i64 q.1)],
     [some (.box [.seq 1 (p.top.map .str),.seq 3 (p.elements.map Allowed.v),.seq 1 (p.unwrap.map .str)]),some (.box [.nil 1,.nil 3,.nil 1]),some (.box [.seq 1 ((dW ⟨[],els,[]⟩ [] p.top).map .str),.ref 3 els.length,.ref 4 q.2.length]),some (.arr ak 3 (els.map Allowed.v)),some (.arr au 1 (q.2.map .str))]⟩)
     (fun q=>q.1<=(zAb 4 p.unwrap).length/\q.2.length<=q.1/\lz q.2 ((zAb 4 p.unwrap).drop q.1)=us) (fun q=>(zAb 4 p.unwrap).length-q.1) [.b 2 2 au 1] _ (0,[]) rfl (by simp) (by simp[<-hu]) ?_
    rintro⟨j,uw⟩ ⟨hj,hul,hi⟩ N hN;simp only at hj hul hi;rcases place (zAb 4 p.unwrap) j hj with⟨he2,hd2⟩|⟨hlt2,y,hy,hd2⟩<;>rw[hd2,lz]at hi
    ·subst hi
     have hjj:(j<p.unwrap.length/\j=4)\/j=p.unwrap.length:=by omega
     rcases hjj with hjj|hjj
     all_goals
      simp(disch:=omega) [-zAa,hjj];simp[hgd]
    ·have hy2:p.unwrap[j]?=some y:=by rw[zAf]at hy;simpa[show j<4 by omega]using hy
     replace hi:=hid hi;simp(disch:=omega) [-zAa,hy2];refine ae (dh _) rfl fun _=>?_;simp(disch:=omega) [-zAa,hy2];refine aF (by simpa using dJ uw y) rfl ?_
     simp(disch:=omega) [-zAa,hy2];have yes:plain y=true->hasS uw y=false->lz (uw++[y]) ((zAb 4 p.unwrap).drop (j+1))=us:=fun h h'=>by have hi:=hi.out;simpa[h,h']using hi
     have no:(plain y&& !hasS uw y)=false->lz uw ((zAb 4 p.unwrap).drop (j+1))=us:=fun h=>by have hi:=hi.out;rw[if_neg (by simp[h])]at hi;exact hi
     replace yes:=hid yes;replace no:=hid no;refine BrK.mk (fun h1=>?_) (fun h1=>?_)
     ·simp(disch:=omega) [-zAa,h1]
      refine BrK.mk (fun h2=>?_) (fun h2=>?_)
      ·simp(disch:=omega) [-zAa,h1,h2]
       refine hN.out _<|Nx.mk (j+1,uw) (by simp) ⟨by simp only;omega,by simp only;omega,no.out (by simp[h2])⟩ (by simp only;omega)
      ·simp(disch:=omega) [-zAa,h1,h2,hy2]
       refine hN.out _<|Nx.mk (j+1,uw++[y]) (by simp) ⟨by simp only;omega,by simp;omega,yes.out h1 h2⟩ (by simp only;omega)
     ·simp(disch:=omega) [-zAa,h1]
      refine hN.out _<|Nx.mk (j+1,uw) (by simp) ⟨by simp only;omega,by simp only;omega,no.out (by simp[h1])⟩ (by simp only;omega)
   ·have hx2:p.elements[k]?=some x:=by rw[zAf]at hx;simpa[show k<out.length by omega]using hx
    obtain⟨e,hex⟩:=a8 (l:=els) (k:=k) (by omega)
    replace hi:=hid hi;simp(disch:=omega) [-zAa,hx2,hex];refine Fl (by simpa using el ⟨[],els,[]⟩ e.name x.kids) ?_
    simp(disch:=omega) [-zAa,hx2,hex];have hi:=hi.out;have hsk:dt els k x.kids=els.set k ⟨e.name,dW ⟨[],els,[]⟩ e.name x.kids,e.rules⟩:=by simp[dt,hex]
    rw[hsk]at hi;refine hN.out _<|Nx.mk (k+1,els.set k ⟨e.name,dW ⟨[],els,[]⟩ e.name x.kids,e.rules⟩) (by simp[zDe]) ⟨by simp only;omega,by simp;omega,hi⟩ (by simp only;omega)
 ·have hx2:p.elements[k]?=some x:=by rw[zAf]at hx;simpa[show k<5 by omega]using hx
  have hRx:=hR x (zAc hx2);obtain⟨pn,hpn⟩:∃pn,ve[k]?=some pn:=a8 (l:=ve) (k:=k) (by simp only[ve,zAd,zBe];omega)
  have hpn2:([.str [97],.str [98],.str [112],.str [98,114],.str [115,116,121,108,101]]:List V)[k]?=some (.str pn):=by
   have:(ve.map V.str)[k]?=some (.str pn):=by rw[zBi,hpn];rfl
   exact this
  replace hi:=hid hi;simp(disch:=omega) [-zAa,hx2];refine ae (dh _) rfl fun _=>?_;simp(disch:=omega) [-zAa,hx2];refine BrK.mk (fun hb=>?_) (fun hb=>?_)
  all_goals
   first
    |(have hnm:iZ k x.name=x.name:=by rw[iZ,if_pos hb])
    |(have hnm:iZ k x.name=pn:=by rw[iZ,if_neg (by simp[hb]),hpn];rfl)
   have hi:=hi.out;rw[hnm]at hi;replace hi:=hid hi;simp(disch:=omega) [-zAa,hx2,hpn2];refine KX (by simpa using lc ⟨[],out,[]⟩ _) (by simp) fun _=>?_
   simp(disch:=omega) [-zAa,hx2];refine BrK.mk (fun hf=>?_) (fun hf=>?_)
   ·simp(disch:=omega) [-zAa,hx2]
    have hi:=hi.out;rw[if_pos hf]at hi;refine hN.out _<|Nx.mk (k+1,out) (by simp) ⟨by simp only;omega,by simp only;omega,hi⟩ (by simp only;omega)
   ·simp(disch:=omega) [-zAa,hx2]
    have hi:=hi.out;rw[if_neg (by simp[hf])]at hi
    refine eA (yP x.rules hRx) (by simp) ?_
    simp(disch:=omega) [-zAa,hx2];refine hN.out _<|Nx.mk (k+1,out++[⟨_,[],du x.rules⟩]) (by simp) ⟨by simp only;omega,by simp;omega,hi⟩ (by simp only;omega)
def fdx{α:Type}(f:α->Bool):Nat->List α->Int
 |_,[]=>-1
 |k,x::l=>if f x then k else fdx f (k+1) l
theorem HV{α:Type}(f:α->Bool):∀(l:List α)(k:Nat),decide (0<=fdx f k l)=l.any f
 |[],k=>by simp[fdx]
 |x::l,k=>by
   simp only[fdx,zDc];split
   ·rename_i h;simp[h]
   ·rename_i h;simp only[zCj]at h;rw[HV f l (k+1),h];rfl
theorem E4(s:Str):∀l:List Str,l.any (fun x=>decide (s=x))=hasS l s
 |[]=>rfl
 |x::l=>by
   simp only[zDc,hasS,E4 s l];by_cases h:x=s
   ·simp[h]
   ·have:¬s=x:=fun e=>h e.symm
    simp[h,this]
theorem l9(l:List Str)(s:Str):Fn Tryz.prog ga [.seq 1 (l.map .str),.str s] (.int .i64 (fdx (fun x=>decide (s=x)) 0 l)):=by
 refine Fn.of_image mixed gp gm rfl fun ho=>?_;unfold cI;simp only[oks,ok,and_true]at ho;have hlen:l.length<=140737488355328:=by have:=ho.1.1;simpa using this
 clear ho;simp(disch:=omega) [-zAa];generalize hr:fdx (fun x=>decide (s=x)) 0 l=r;refine an (fun k:Nat=>⟨[(0,.seq 1 (l.map .str)),(1,.str s),(7,.int .i64 l.length),(8,.int .i64 k)],[]⟩) (fun k=>k<=l.length/\fdx (fun x=>decide (s=x)) k (l.drop k)=r) (fun k=>l.length-k) [] _ 0 rfl (by simp[*]) (by simp[*]) ?_
 rintro k ⟨hk,hi⟩ N hN;rcases place l k hk with⟨he,hd⟩|⟨hlt,x,hx,hd⟩<;>rw[hd]at hi<;>replace hi:=hid hi
 ·simp(disch:=omega) [-zAa,he]
  simpa[fdx]using hi.out
 ·simp(disch:=omega) [-zAa,hx]
  refine BrKd.mk (fun h=>?_) (fun h=>?_)
  ·simp(disch:=omega) [-zAa]
   have hi:=hi.out;simpa[fdx,h]using hi
  ·simp(disch:=omega) [-zAa]
   refine hN.out _<|Nx.mk (k+1) (by simp[*]) ⟨by omega,?_⟩ (by omega)
   have hi:=hi.out;simpa[fdx,h]using hi
theorem f_slices_Contains_string(l:List Str)(s:Str):Fn Tryz.prog eT [.seq 1 (l.map .str),.str s] (.bool (hasS l s)):=by
 refine Fn.of_image mixed fe eZ rfl fun ho=>?_;unfold ce;simp only[oks,ok,and_true]at ho;simp(disch:=omega) [-zAa];refine ae (l9 _ _) rfl fun _=>?_;simp(disch:=omega) [-zAa];rw[HV,E4]
def ew(s p:Str):Bool:=decide (p.length<=s.length)&&decide (s.take p.length=p)
theorem eG(s p:Str):Fn Tryz.prog eW [.str s,.str p] (.bool (ew s p)):=by
 refine Fn.of_image mixed fh fc rfl fun ho=>?_;unfold cg;simp only[oks,ok,and_true]at ho;simp(disch:=omega) [-zAa,ew]
 repeat' (first|(refine BrKd.mk (fun h=>?_) (fun h=>?_)<;>simp(disch:=omega) [*])|(refine BrK.mk (fun h=>?_) (fun h=>?_)<;>simp(disch:=omega) [*]))
theorem gY(s p:Str):Fn Tryz.prog n9 [.str s,.str p] (.bool (ew s p)):=by
 refine Fn.of_image mixed oq ol rfl fun ho=>?_;unfold hO;simp only[oks,ok,and_true]at ho;simp(disch:=omega) [-zAa]
 repeat' (first|(refine BrKd.mk (fun h=>?_) (fun h=>?_)<;>simp(disch:=omega) [*])|(refine BrK.mk (fun h=>?_) (fun h=>?_)<;>simp(disch:=omega) [*])|(refine ae (eG _ _) rfl (fun _=>?_)<;>simp(disch:=omega) [*])|(refine aF (eG _ _) rfl ?_<;>simp(disch:=omega) [*]))
theorem f_lang_isValue(s:Str):Fn Tryz.prog vB [.str s] (.bool (s.all sign)):=by
 refine Fn.of_image mixed wl vW rfl fun ho=>?_;unfold nq;simp only[oks,ok,and_true]at ho;simp(disch:=omega) [-zAa];generalize hr:s.all sign=r;refine an (fun k:Nat=>⟨[(0,.str s),(3,.int .i64 k)],[]⟩) (fun k=>k<=s.length/\(s.drop k).all sign=r) (fun k=>s.length-k) [] _ 0 rfl (by simp[*]) (by simp[*]) ?_
 rintro k ⟨hk,hi⟩ N hN;rcases place s k hk with⟨he,hd⟩|⟨hlt,x,hx,hd⟩<;>rw[hd]at hi<;>replace hi:=hid hi
 ·simp(disch:=omega) [-zAa,he]
  simpa using hi.out
 ·simp(disch:=omega) [-zAa,hx]
  repeat' (first|(refine BrKd.mk (fun h=>?_) (fun h=>?_)<;>simp(disch:=omega) [*])|(refine BrK.mk (fun h=>?_) (fun h=>?_)<;>simp(disch:=omega) [*]))
  all_goals first
   |(refine hN.out _<|Nx.mk (k+1) (by simp[*]) ⟨by omega,?_⟩ (by omega);simpa(disch:=omega) [*,decide_eq_true,decide_eq_false,sign]using hi.out)
   |(first|simpa(disch:=omega) [*,decide_eq_true,decide_eq_false,sign]using hi.out.symm|simpa(disch:=omega) [*,decide_eq_true,decide_eq_false,sign]using hi.out)
theorem dU(c:UInt8):∀s:Str,Lib.indexByte s c<(s.length:Int)+1/\(0<=Lib.indexByte s c->Lib.indexByte s c<s.length)
 |[]=>by simp[Lib.indexByte]
 |b::l=>by
   have:=dU c l;unfold Lib.indexByte;simp only[zAd];split
   ·omega
   ·split
    ·omega
    ·omega
theorem bv(s:Str)(c:UInt8):Fn Tryz.prog be [.str s,.int .u8 c.toNat] (.int .i64 (Lib.indexByte s c)):=by
 refine Fn.ext bT (by kernel_rfl) (by kernel_rfl) (by kernel_rfl) (e:=Extern.BytealgIndexByte.indexByte) (by kernel_rfl) ?_
 intro M w cs hM hus;obtain⟨cl⟩:=cs;simp only[ac]at hus;obtain⟨_,_,rfl,⟨bs,rfl,rfl,_⟩,_,_,rfl,⟨rfl,_⟩,rfl⟩:=hus;refine⟨_,Lib.run_indexByteString bs (c.toNat:Int) w,?_⟩;have hc:((c.toNat:Int)).toNat.toUInt8=c:=by simp
 rw[hc];simp only[rep];have h1:=Lib.indexByte_ge bs.data.toList c;have h2:=dU c bs.data.toList;refine⟨trivial,?_,?_⟩
 ·simp;omega
 ·simp;omega
theorem eF(s:Str)(c:UInt8):Fn Tryz.prog b9 [.str s,.int .u8 c.toNat] (.int .i64 (Lib.indexByte s c)):=by
 refine Fn.of_image mixed cd cc rfl fun ho=>?_;unfold bp;simp only[oks,ok,and_true]at ho;simp(disch:=omega) [-zAa]
 repeat' (first|(refine BrKd.mk (fun h=>?_) (fun h=>?_)<;>simp(disch:=omega) [*])|(refine BrK.mk (fun h=>?_) (fun h=>?_)<;>simp(disch:=omega) [*])|(refine ae (bv _ _) rfl (fun _=>?_)<;>simp(disch:=omega) [*])|(refine aF (bv _ _) rfl ?_<;>simp(disch:=omega) [*]))
theorem m0(s:Str)(c:UInt8):Fn Tryz.prog bc [.str s,.str [c]] (.int .i64 (Lib.indexByte s c)):=by
 refine Fn.of_image mixed gL gK rfl fun ho=>?_;unfold c7;simp only[oks,ok,and_true]at ho;simp(disch:=omega) [-zAa]
 repeat' (first|(refine BrKd.mk (fun h=>?_) (fun h=>?_)<;>simp(disch:=omega) [*])|(refine BrK.mk (fun h=>?_) (fun h=>?_)<;>simp(disch:=omega) [*])|(refine ae (eF _ _) rfl (fun _=>?_)<;>simp(disch:=omega) [*])|(refine aF (eF _ _) rfl ?_<;>simp(disch:=omega) [*]))
 all_goals (try (subst h;simp[Lib.indexByte]))
def cutB(s:Str)(c:UInt8):Str×Str×Bool:=if 0<=Lib.indexByte s c then(s.take (Lib.indexByte s c).toNat,s.drop ((Lib.indexByte s c).toNat+1),true)else(s,[],false)
theorem iX(s:Str)(c:UInt8):Fn Tryz.prog iL [.str s,.str [c]] (.tup [.str (cutB s c).1,.str (cutB s c).2.1,.bool (cutB s c).2.2]):=by
 refine Fn.of_image mixed iV iS rfl fun ho=>?_;unfold dN;simp only[oks,ok,and_true]at ho;have hb:=dU c s;have hg:=Lib.indexByte_ge s c;simp(disch:=omega) [-zAa];refine ae (m0 _ _) rfl fun _=>?_;unfold cutB;generalize Lib.indexByte s c=n at *;simp(disch:=omega) [-zAa];refine BrKd.mk (fun h=>?_) (fun h=>?_)
 ·obtain⟨m,rfl⟩:=Int.eq_ofNat_of_zero_le h
  have hm:=hb.2 h;simp(disch:=omega) [-zAa];rw[zAh (by simp)]
 ·simp(disch:=omega) [-zAa,h]
theorem f_strings_Cut1(s:Str)(c:UInt8):Fn Tryz.prog xp [.str s,.str [c]] (.tup [.str (cutB s c).1,.str (cutB s c).2.1,.bool (cutB s c).2.2]):=by
 refine Fn.of_image mixed yl xP rfl fun ho=>?_;unfold oU;simp only[oks,ok,and_true]at ho;simp(disch:=omega) [-zAa]
 repeat' (first|(refine BrKd.mk (fun h=>?_) (fun h=>?_)<;>simp(disch:=omega) [*])|(refine BrK.mk (fun h=>?_) (fun h=>?_)<;>simp(disch:=omega) [*])|(refine ae (iX _ _) rfl (fun _=>?_)<;>simp(disch:=omega) [*])|(refine aF (iX _ _) rfl ?_<;>simp(disch:=omega) [*]))
def allowsL(c:Constraint)(v:Str):Bool:=
 v.all sign&&(decide (c.kind=1)||((decide (c.kind=2)&&hasS c.words v)||(decide (c.kind=3)&&(!(cutB v 58).2.2||hasS c.words (cutB v 58).1))))
structure Node where
 kind:Int
 name:Str
 attrs:List Attr
 text:Str
 kids:List Node
mutual
def Node.v:Node->V
 |⟨k,n,a,t,ks⟩=>.strct [.int .i64 k,.str n,.seq 2 (a.map Attr.v),.str t,.seq 5 (Node.vs ks)]
def Node.vs:List Node->List V
 |[]=>[]
 |n::l=>n.v::Node.vs l
end
theorem Node.vs_map:∀l:List Node,Node.vs l=l.map Node.v
 |[]=>by simp[Node.vs]
 |n::l=>by simp[Node.vs,Node.vs_map l]
theorem Node.v_eq(n:Node):n.v=.strct [.int .i64 n.kind,.str n.name,.seq 2 (n.attrs.map Attr.v),.str n.text,.seq 5 (n.kids.map Node.v)]:=by
 cases n;simp[Node.v,Node.vs_map]
attribute [simp] Node.v_eq
section
variable{p:List Node->Prop}(h0:p [])(h1:∀n l,p n.kids->p l->p (n::l))
include h0 h1
mutual
theorem aN:∀l,p l
 |[]=>h0
 |n::l=>h1 n l (FSk n) (aN l)
theorem FSk:∀n:Node,p n.kids
 |⟨_,_,_,_,ks⟩=>aN ks
end
end
def DS(p:Policy)(par:Str):List Str:=if par=[]then p.top else((aU p.elements par).getD .zero).kids
def nT(p:Policy)(par:Str)(n:Node):Bool:=
 if n.kind=2 then hasS (DS p par) eD else if n.kind=3 then hasS (DS p par) bD else decide (n.kind=1)&&hasS (DS p par) n.name
def fits(pat nm:Str):Bool:=plain (eI pat).1&&(if(eI pat).2 then ew nm (eI pat).1 else decide (nm=(eI pat).1))
def gx:List Rule->Str->Option Rule
 |[],_=>none
 |r::l,s=>if fits r.name s then some r else gx l s
def Rule.zero:Rule:=⟨[],⟨0,[],[]⟩,false⟩
def Policy.few(p:Policy):Prop:=p.top.length<=1000000/\p.elements.length<=1000000/\∀e∈p.elements,e.kids.length<=1000000/\e.rules.length<=1000000
def jc(A:Constraint->Str->Bool)(e:Allowed)(a:Attr):Bool:=match gx e.rules a.name with
 |some r=>A r.value a.value
 |none=>false
theorem Am:∀{l:List Rule}{s:Str}{r:Rule},gx l s=some r->r∈l/\fits r.name s=true
 |[],s,r,h=>by simp[gx]at h
 |x::l,s,r,h=>by
   simp only[gx]at h;split at h
   ·cases h;exact⟨by simp,by assumption⟩
   ·obtain⟨h1,h2⟩:=Am h;exact⟨by simp[h1],h2⟩
def HO(A:Constraint->Str->Bool)(e:Allowed)(l:List Attr):List Attr:=l.filter (jc A e)
def gE:List Attr->Str->Option Str
 |[],_=>none
 |a::l,s=>if a.name=s then some a.value else gE l s
theorem yS(n:Node)(s:Str):Fn Tryz.prog xy [n.v,.str s] (.tup [.str ((gE n.attrs s).getD []),.bool (gE n.attrs s).isSome]):=by
 refine Fn.of_image mixed yx xZ rfl fun ho=>?_;unfold oZ;simp only[oks,ok,and_true]at ho;have hlen:n.attrs.length<=140737488355328:=by have:=ho.1;simp at this;exact this.2.2.1.1
 clear ho;simp(disch:=omega) [-zAa];generalize hr:gE n.attrs s=r;refine an (fun k:Nat=>⟨[(1,.str s),(2,.ptr 0 0),(6,.int .i64 k)],[some (.box [.int .i64 n.kind,.str n.name,.seq 2 (n.attrs.map Attr.v),.str n.text,.seq 5 (n.kids.map Node.v)])]⟩) (fun k=>k<=n.attrs.length/\gE (n.attrs.drop k) s=r) (fun k=>n.attrs.length-k) [] _ 0 rfl (by simp[*]) (by simp[*]) ?_
 rintro k ⟨hk,hi⟩ N hN;rcases place n.attrs k hk with⟨he,hd⟩|⟨hlt,x,hx,hd⟩<;>rw[hd]at hi<;>replace hi:=hid hi
 ·simp(disch:=omega) [-zAa,he]
  simp[<-hi.out,gE]
 ·simp(disch:=omega) [-zAa,hx]
  refine BrKd.mk (fun h=>?_) (fun h=>?_)
  ·simp(disch:=omega) [-zAa,hx]
   have hi:=hi.out;simp[gE,h]at hi;subst hi;simp
  ·simp(disch:=omega) [-zAa]
   refine hN.out _<|Nx.mk (k+1) (by simp[*]) ⟨by omega,?_⟩ (by omega)
   have hi:=hi.out;simpa[gE,h]using hi
def whole(e:Allowed)(l:List Attr):Bool:=e.rules.all fun r=>!(r.req&& !(gE l r.name).isSome)
def jA(A:Constraint->Str->Bool)(e:Allowed)(l:List Attr):Bool:=decide ((HO A e l).length=l.length)&&whole e l
mutual
def NI(f:Node->Prop):Node->Prop
 |⟨k,n,a,t,ks⟩=>f ⟨k,n,a,t,ks⟩/\ap f ks
def ap(f:Node->Prop):List Node->Prop
 |[]=>True
 |n::l=>NI f n/\ap f l
end
mutual
def GU:Node->Nat
 |⟨k,n,a,t,ks⟩=>1+al ks
def al:List Node->Nat
 |[]=>0
 |n::l=>GU n+al l
end
theorem d2(f:Node->Prop)(n:Node):NI f n=(f n/\ap f n.kids):=by cases n;simp[NI]
theorem dZ(n:Node):GU n=1+al n.kids:=by cases n;simp[GU]
theorem uG:∀{l:List Node}{n:Node},n∈l->al n.kids+1<=al l
 |[],n,h=>by cases h
 |x::l,n,h=>by
   simp only[al,dZ];rcases zBa.1 h with rfl|h
   ·omega
   ·have:=uG h;omega
theorem fJ{f:Node->Prop}:∀{l:List Node}{n:Node},ap f l->n∈l->f n/\ap f n.kids
 |[],n,_,h=>by cases h
 |x::l,n,ha,h=>by
   simp only[ap,d2]at ha;rcases zBa.1 h with rfl|h
   ·exact ha.1
   ·exact fJ ha.2 h
def mF(A:Constraint->Str->Bool)(p:Policy)(par:Str)(n:Node):Bool:=
 nT p par n&&(!decide (n.kind=1)||jA A ((aU p.elements n.name).getD .zero) n.attrs)
mutual
def L5(A:Constraint->Str->Bool)(p:Policy):Node->Int×Nat
 |⟨_,nm,_,_,ks⟩=>dn A p nm ks 0
def dn(A:Constraint->Str->Bool)(p:Policy)(par:Str):List Node->Nat->Int×Nat
 |[],many=>(-1,many)
 |n::l,many=>if mF A p par n then(if 0<=(L5 A p n).1 then((many+1:Int)+(L5 A p n).1,many+1)else dn A p par l (many+1+(L5 A p n).2))else(many,many)
end
theorem uB(A:Constraint->Str->Bool)(p:Policy)(n:Node):L5 A p n=dn A p n.name n.kids 0:=by cases n;simp[L5]
theorem qE(A:Constraint->Str->Bool)(p:Policy):∀(l:List Node)(par:Str)(many:Nat),many<=(dn A p par l many).2/\(dn A p par l many).2<=many+al l/\-1<=(dn A p par l many).1/\(dn A p par l many).1<=many+al l:=by
 refine aN (fun par many=>by simp[dn,al]) ?_
 intro n l h1 h2 par many;have g1:=h1 n.name 0;simp only[dn,al,dZ,uB];split
 ·split
  ·simp only;omega
  ·have g2:=h2 par (many+1+(dn A p n.name n.kids 0).2)
   omega
 ·simp only;omega
def EB(n:Node):Prop:=n.attrs.length<=1000000/\∀a∈n.attrs,a.value.length<=1000
theorem nW:∀{l:List Allowed}{s:Str}{r:Allowed},aU l s=some r->r∈l/\r.name=s
 |[],s,r,h=>by simp[aU]at h
 |x::l,s,r,h=>by
   simp only[aU]at h;split at h
   ·cases h;exact⟨by simp,by assumption⟩
   ·obtain⟨h1,h2⟩:=nW h;exact⟨by simp[h1],h2⟩
def bV(b:UInt8):V:=.int .u8 b.toNat
theorem GX(s:Str):eb s=s.map bV:=sI s
theorem H8(b:UInt8):bV b=.int .u8 b.toNat:=rfl
attribute [simp] GX H8
def follows(b:UInt8):Bool:=decide (128<=b.toNat)&&decide (b.toNat<192)
theorem ug(b:UInt8):Fn Tryz.prog tQ [.int .u8 b.toNat] (.bool (follows b)):=by
 refine Fn.of_image mixed ub tX rfl fun ho=>?_;unfold lU;simp only[oks,ok,and_true]at ho;simp(disch:=omega) [-zAa,follows]
 repeat' (first|(refine BrKd.mk (fun h=>?_) (fun h=>?_)<;>simp(disch:=omega) [*])|(refine BrK.mk (fun h=>?_) (fun h=>?_)<;>simp(disch:=omega) [*]))
def hdr(c:Nat):Nat×Nat×Nat:=
 if 192<=c/\c<224 then(2,c-192,128)else if 224<=c/\c<240 then(3,c-224,2048)else if 240<=c/\c<248 then(4,c-240,65536)else(0,0,0)
def goV:Str->Nat->Option Nat
 |[],v=>some v
 |b::l,v=>if follows b then goV l (64*v+b.toNat-128)else none
def vj(n least:Nat):Option Nat->Nat×Nat
 |none=>(65533,1)
 |some v=>if v<least\/1114111<v\/(55296<=v/\v<=57343)then(65533,1)else(v,n)
def one:Str->Nat×Nat
 |[]=>(65533,1)
 |b::t=>if b.toNat<128 then(b.toNat,1)
   else if(hdr b.toNat).1=0\/t.length+1<(hdr b.toNat).1 then(65533,1)
   else vj (hdr b.toNat).1 (hdr b.toNat).2.2 (goV (t.take ((hdr b.toNat).1-1)) (hdr b.toNat).2.1)
theorem Ad(c:Nat):(hdr c).1=0\/(2<=(hdr c).1/\(hdr c).1<=4/\(hdr c).2.1<64/\(hdr c).2.2<=65536):=by
 unfold hdr;split
 ·simp;omega
 ·split
  ·simp;omega
  ·split
   ·simp;omega
   ·simp
theorem fD(s:Str):1<=(one s).2/\(one s).2<=4/\(s≠[]->(one s).2<=s.length)/\(one s).1<=1114111/\¬(55296<=(one s).1/\(one s).1<=57343):=by
 cases s with
 |nil=>simp[one]
 |cons b t=>
   have hb:=b.toNat_lt;have hr:=Ad b.toNat;simp only[one];split
   ·simp;omega
   ·split
    ·simp
    ·rename_i h
     unfold vj;split
     ·simp
     ·split
      ·simp
      ·rename_i h2
       simp only[zAd];omega
theorem Gs{b:UInt8}(h:follows b=true):128<=b.toNat/\b.toNat<192:=by simpa[follows]using h
theorem EH(b:UInt8)(t:Str):Fn Tryz.prog DG [.seq 1 ((b::t).map bV)] (.tup [.int .i32 (one (b::t)).1,.int .i64 (one (b::t)).2]):=by
 refine Fn.of_image mixed Ek D6 rfl fun ho=>?_;unfold tD;simp only[oks,ok,and_true]at ho;have hlen:t.length<140737488355328:=by have:=ho.1;simp at this;omega
 clear ho;have hb:=b.toNat_lt;generalize hR:one (b::t)=R;have hR2:=hR;simp only[one]at hR2;simp(disch:=omega) [-zAa];have hr:=Ad b.toNat;refine BrKd.mk (fun h=>?_) (fun h=>?_)
 ·rw[if_pos h]at hR2
  simp(disch:=omega) [-zAa,<-hR2]
 ·rw[if_neg h]at hR2
  have hz:(hdr b.toNat).1=0->R=(65533,1):=fun h=>by rw[if_pos (.inl h)]at hR2;exact hR2.symm
  have hs:t.length+1<(hdr b.toNat).1->R=(65533,1):=fun h=>by rw[if_pos (.inr h)]at hR2;exact hR2.symm
  have hok:¬(hdr b.toNat).1=0->¬t.length+1<(hdr b.toNat).1->vj (hdr b.toNat).1 (hdr b.toNat).2.2 (goV (t.take ((hdr b.toNat).1-1)) (hdr b.toNat).2.1)=R:=fun h h'=>by rw[if_neg (by simp[h,h'])]at hR2;exact hR2
  clear hR2;replace hz:=hid hz;replace hs:=hid hs;replace hok:=hid hok;simp(disch:=omega) [-zAa]
  repeat' (first
   |(refine BrKd.mk (fun h=>?_) (fun h=>?_)<;>simp(disch:=omega) [*])
   |(refine BrK.mk (fun h=>?_) (fun h=>?_)<;>simp(disch:=omega) [*]))
  all_goals
   first
   |(have hq:hdr b.toNat=(2,b.toNat-192,128):=by unfold hdr;rw[if_pos (by omega)])
   |(have hq:hdr b.toNat=(3,b.toNat-224,2048):=by unfold hdr;rw[if_neg (by omega),if_pos (by omega)])
   |(have hq:hdr b.toNat=(4,b.toNat-240,65536):=by unfold hdr;rw[if_neg (by omega),if_neg (by omega),if_pos (by omega)])
   |(have hq:hdr b.toNat=(0,0,0):=by unfold hdr;rw[if_neg (by omega),if_neg (by omega),if_neg (by omega)])
   by_cases h0:(hdr b.toNat).1=0
   ·first
    |(have h0:=hz.out h0;simp[h0];done)
    |(exfalso;rw[hq]at h0;simp at h0;done)
   by_cases h1:t.length+1<(hdr b.toNat).1
   ·first
    |(have h0:=hs.out h1;simp[h0];done)
    |(exfalso;rw[hq]at h1;simp at h1;omega)
   first
   |(exfalso;rw[hq]at h0;exact h0 rfl)
   |(exfalso;rw[hq]at h1;simp only at h1;omega)
   |skip
  all_goals
   obtain⟨n,hn⟩:∃n:Nat,n=(hdr b.toNat).1:=⟨_,rfl⟩;obtain⟨v0,hv⟩:∃n:Nat,n=(hdr b.toNat).2.1:=⟨_,rfl⟩;obtain⟨le,hl⟩:∃n:Nat,n=(hdr b.toNat).2.2:=⟨_,rfl⟩;rw[<-hn,<-hv,<-hl]at hok hr;rw[hq]at hn hv hl;simp only at hn hv hl;have hok:=hok.out (by omega) (by omega)
   have htl:(t.take (n-1)).length=n-1:=by rw[zAe];omega
   refine an (fun(q:Nat×Nat)=>⟨[(0,.seq 1 ((b::t).map bV)),(5,.int .i64 n),(6,.int .i64 q.2),(7,.int .i64 le),(8,.int .i64 ((q.1:Int)+1))],[]⟩)
    (fun q=>q.1<=(t.take (n-1)).length/\vj n le (goV ((t.take (n-1)).drop q.1) q.2)=R/\((q.1=0/\q.2<64)\/(q.1=1/\q.2<4096)\/(q.1=2/\q.2<262144)\/(q.1=3/\q.2<16777216))) (fun q=>(t.take (n-1)).length-q.1) [] _ (0,v0) rfl (by simp[hn,hv,hl];omega) (by simp[hok];omega) ?_
   have hn24:2<=n/\n<=4/\le<=65536:=by omega
   clear hq hn hv hl;rintro⟨j,v⟩ ⟨hj,hi,hvb⟩ N hN;simp only at hj hi hvb;rcases place (t.take (n-1)) j hj with⟨he,hd⟩|⟨hlt,x,hx,hd⟩<;>rw[hd,goV]at hi
   ·simp only[vj]at hi
    have bad:(v<le\/1114111<v\/(55296<=v/\v<=57343))->R=(65533,1):=fun h=>by rw[if_pos h]at hi;exact hi.symm
    have good:¬(v<le\/1114111<v\/(55296<=v/\v<=57343))->R=(v,n):=fun h=>by rw[if_neg h]at hi;exact hi.symm
    clear hi;replace bad:=hid bad;replace good:=hid good;have hjn:j+1=n:=by omega
    have hjn2:¬((j:Int)+1<n):=by omega
    simp(disch:=omega) [-zAa,hjn2]
    repeat' (first
     |(refine BrKd.mk (fun h=>?_) (fun h=>?_)<;>simp(disch:=omega) [*])
     |(refine BrK.mk (fun h=>?_) (fun h=>?_)<;>simp(disch:=omega) [*]))
    all_goals first
     |(rw[bad.out (by omega)];simp;done)
     |(rw[good.out (by omega)];simp;done)
   ·have hx2:t[j]?=some x:=by rw[zAf]at hx;simpa[show j<n-1 by omega]using hx
    have hxb:=x.toNat_lt;have hjn2:(j:Int)+1<n:=by omega
    replace hi:=hid hi;simp(disch:=omega) [-zAa,hx2,hjn2];refine ae (ug x) rfl fun _=>?_;simp(disch:=omega) [-zAa];refine BrK.mk (fun h=>?_) (fun h=>?_)
    ·have hf:=Gs h
     simp(disch:=omega) [-zAa,hx2];have hi:=hi.out;rw[if_pos h]at hi;refine hN.out _<|Nx.mk (j+1,64*v+x.toNat-128) (by simp;omega) ⟨by simp only;omega,hi,by simp only;omega⟩ (by simp only;omega)
    ·simp(disch:=omega) [-zAa]
     have hi:=hi.out;rw[if_neg (by simp[h])]at hi
     simp[<-hi,vj]
def fA:Nat->Str->List Nat
 |0,_=>[]
 |_,[]=>[]
 |f+1,b::t=>(one (b::t)).1::fA f ((b::t).drop (one (b::t)).2)
def cT(s:Str):List Nat:=fA s.length s
theorem FC:∀(f:Nat)(s:Str),s.length<=f->fA f s=cT s:=by
 have key:∀(n f g:Nat)(s:Str),s.length<=n->s.length<=f->s.length<=g->fA f s=fA g s:=by
  intro n
  induction n with
  |zero=>intro f g s h1 _ _;have:s=[]:=zAg (by omega);subst this;cases f<;>cases g<;>rfl
  |succ n ih=>
    intro f g s h1 h2 h3;cases s with
    |nil=>cases f<;>cases g<;>rfl
    |cons b t=>
      cases f with
      |zero=>simp at h2
      |succ f=>cases g with
        |zero=>simp at h3
        |succ g=>
          simp only[fA];have:=fD (b::t);simp only[zAd]at h1 h2 h3;rw[ih f g _ (by simp;omega) (by simp;omega) (by simp;omega)]
 intro f s h;exact key s.length f s.length s (zBf _) h (zBf _)
theorem fy(b:UInt8)(t:Str):cT (b::t)=(one (b::t)).1::cT ((b::t).drop (one (b::t)).2):=by
 have:=fD (b::t);rw[<-FC t.length ((b::t).drop (one (b::t)).2) (by simp;omega)]
 rfl
theorem zo:∀(n:Nat)(s:Str),s.length<=n->(cT s).length<=s.length:=by
 intro n
 induction n with
 |zero=>intro s h;have:s=[]:=zAg (by omega);subst this;simp[cT,fA]
 |succ n ih=>
   intro s h;cases s with
   |nil=>simp[cT,fA]
   |cons b t=>
     have h1:=fD (b::t);rw[fy];simp only[zAd]at h⊢;have:=ih ((b::t).drop (one (b::t)).2) (by simp;omega)
     simp at this;omega
theorem IK:∀(n:Nat)(s:Str),s.length<=n->∀r∈cT s,r<=1114111/\¬(55296<=r/\r<=57343):=by
 intro n
 induction n with
 |zero=>intro s h r hr;have:s=[]:=zAg (by omega);subst this;simp[cT,fA]at hr
 |succ n ih=>
   intro s h r hr;cases s with
   |nil=>simp[cT,fA]at hr
   |cons b t=>
     have h1:=fD (b::t);rw[fy]at hr;simp only[zAd]at h;rcases zBa.1 hr with rfl|hr
     ·exact h1.2.2.2
     ·exact ih _ (by simp;omega) r hr
def rV(r:Nat):V:=.int .i32 r
theorem rV_eq(r:Nat):rV r=.int .i32 r:=rfl
attribute [simp] rV_eq
theorem yU(s:Str)(hs:s.length<=1000000):FnN Tryz.prog xC [.seq 1 (s.map bV)] (.seq 1 ((cT s).map rV)):=by
 refine FnN.of_image mixed yB x7 rfl fun ho=>?_;unfold pc;clear ho;simp(disch:=omega) [-zAa];generalize hw:cT s=w
 refine an (fun(q:Nat×List Nat)=>⟨[(0,.seq 1 (s.map bV)),(3,.ref 0 q.2.length),(4,.int .i64 q.1)],[some (.arr j5 1 (q.2.map rV))]⟩)
  (fun q=>q.1<=s.length/\q.2.length<=q.1/\q.2++cT (s.drop q.1)=w) (fun q=>s.length-q.1) [.r 3 j5 1] _ (0,[]) rfl (by simp) (by simp[<-hw]) ?_
 rintro⟨k,out⟩ ⟨hk,hol,hi⟩ N hN;simp only at hk hol hi;have hfl:∀l:List Nat,cY (l.map rV)=true:=fun l=>by induction l<;>simp[cY,bU, *]
 rcases place s k hk with⟨he,hd⟩|⟨hlt,x,hx,hd⟩<;>rw[hd]at hi
 ·simp[cT,fA]at hi
  subst hi;simp(disch:=omega) [-zAa,he,hfl]
 ·have h1:=fD (x::s.drop (k+1))
  rw[fy]at hi;have hd2:(x::s.drop (k+1)).drop (one (x::s.drop (k+1))).2=s.drop (k+(one (x::s.drop (k+1))).2):=by rw[<-hd,List.drop_drop]
  rw[hd2]at hi;have hle:=h1.2.2.1 (by simp)
  simp only[zAd,List.length_drop]at hle;replace hi:=hid hi
  have hsl:rW (s.map bV) k s.length=some ((x::s.drop (k+1)).map bV):=by
   simp only[rW];rw[if_pos (by simp;omega),<-hd]
   simp;rw[zAh (by simp)]
  simp(disch:=omega) [hsl,-zAi,-rW];refine ae (EH x (s.drop (k+1))) rfl fun _=>?_;generalize one (x::s.drop (k+1))=o at *;simp(disch:=omega) [-zAa];refine hN.out _<|Nx.mk (k+o.2,out++[o.1]) (by simp) ⟨by simp only;omega,by simp;omega,by simpa using hi.out⟩ (by simp only;omega)
def b8(n:Nat):UInt8:=UInt8.ofNat n
theorem rM{n:Nat}(h:n<256):(b8 n).toNat=n:=by simp[b8,UInt8.toNat_ofNat,Nat.mod_eq_of_lt h]
def fp(r:Nat):Str:=
 let v:=if 1114111<r\/(55296<=r/\r<=57343)then 65533 else r
 if v<128 then[b8 v]
 else if v<2048 then[b8 (192+v/64),b8 (128+v%64)]
 else if v<65536 then[b8 (224+v/4096),b8 (128+v/64%64),b8 (128+v%64)]
 else[b8 (240+v/262144),b8 (128+v/4096%64),b8 (128+v/64%64),b8 (128+v%64)]
theorem w8(r:Nat):(fp r).length<=4:=by
 unfold fp;simp only
 repeat' split
 all_goals simp
theorem yT(r:Nat)(h:r<=1114111):Fn Tryz.prog xB [.int .i32 r] (.seq 1 ((fp r).map bV)):=by
 refine Fn.of_image mixed yA x6 rfl fun ho=>?_;unfold pb;simp only[oks,ok,and_true]at ho;clear ho;generalize hR:fp r=R;unfold fp at hR;simp only at hR;by_cases hb:1114111<r\/(55296<=r/\r<=57343)
 ·rw[if_pos hb]at hR
  simp(disch:=omega) [-zAa]
  repeat' (first
   |(refine BrKd.mk (fun h=>?_) (fun h=>?_)<;>simp(disch:=omega) [*])
   |(refine BrK.mk (fun h=>?_) (fun h=>?_)<;>simp(disch:=omega) [*]))
  all_goals first|omega|(subst hR;rfl)
 ·rw[if_neg hb]at hR
  simp(disch:=omega) [-zAa]
  repeat' (first
   |(refine BrKd.mk (fun h=>?_) (fun h=>?_)<;>simp(disch:=omega) [*])
   |(refine BrK.mk (fun h=>?_) (fun h=>?_)<;>simp(disch:=omega) [*]))
  all_goals (subst hR;simp(disch:=omega) [rM])
def ji(l:List Nat):Str:=(l.map fp).flatten
theorem zj:∀l:List Nat,(ji l).length<=4*l.length
 |[]=>by simp[ji]
 |r::l=>by
   have h1:=w8 r;have h2:=zj l;simp only[ji,zAi,zCi,zAj,zAd]at *;omega
theorem qD:∀s:Str,bR (s.map bV)=some s
 |[]=>rfl
 |b::s=>by
   have:=qD s;simp only[zAi,H8,bR,this,Option.map_some,zDf,zDg,and_true];simp
attribute [simp] qD
theorem Ct(l:List Nat)(hl:l.length<=1000000)(hr:∀r∈l,r<=1114111):Fn Tryz.prog Bi [.seq 1 (l.map rV)] (.str (ji l)):=by
 refine Fn.of_image mixed B9 BO rfl fun ho=>?_;unfold rF;simp only[oks,ok,and_true]at ho;clear ho;simp(disch:=omega) [-zAa];generalize hw:ji l=w
 refine an (fun(q:Nat×Str)=>⟨[(0,.seq 1 (l.map rV)),(3,.ref 0 q.2.length),(4,.int .i64 q.1)],[some (.arr iB 1 (q.2.map bV))]⟩)
  (fun q=>q.1<=l.length/\q.2.length<=4*q.1/\q.2++ji (l.drop q.1)=w) (fun q=>l.length-q.1) [.r 3 iB 1] _ (0,[]) rfl (by simp) (by simp[<-hw]) ?_
 rintro⟨k,out⟩ ⟨hk,hol,hi⟩ N hN;simp only at hk hol hi;rcases place l k hk with⟨he,hd⟩|⟨hlt,x,hx,hd⟩<;>rw[hd]at hi
 ·simp[ji]at hi
  subst hi;simp(disch:=omega) [he,-H8]
 ·simp only[ji,zAi,zCi]at hi
  have hxl:=w8 x;replace hi:=hid hi;simp(disch:=omega) [-zAa,hx];refine aP (yT x (hr x (zAc hx))) (by simp) fun _=>?_
  simp(disch:=omega) [-zAa];refine hN.out _<|Nx.mk (k+1,out++fp x) (by simp) ⟨by simp only;omega,by simp;omega,by simpa[ji]using hi.out⟩ (by simp only;omega)
def jL:Option Nat->List Nat->List Nat
 |_,[]=>[]
 |p,r::l=>(if r=10/\p=some 13 then[]else[if r=13 then 10 else if r=0 then 65533 else r])++jL (some r) l
theorem Ez:∀(l:List Nat)(p:Option Nat),(jL p l).length<=l.length
 |[],p=>by simp[jL]
 |r::l,p=>by
   have:=Ez l (some r);simp only[jL,zAj,zAd];split<;>simp<;>omega
theorem Ey:∀(l:List Nat)(p:Option Nat),(∀r∈l,r<=1114111)->∀r∈jL p l,r<=1114111
 |[],p,_,r,hr=>by simp[jL]at hr
 |x::l,p,h,r,hr=>by
   simp only[jL,zBb]at hr;rcases hr with hr|hr
   ·have:=h x (by simp)
    split at hr
    ·cases hr
    ·simp at hr;subst hr;split<;>(try split)<;>omega
   ·exact Ey l _ (fun y hy=>h y (by simp[hy])) r hr
def dm(s:Str):Str:=ji (jL none (cT s))
def lA(l:List Nat)(k:Nat):Option Nat:=if k=0 then none else l[k-1]?
theorem jS(s:Str)(hs:s.length<=1000000):Fn Tryz.prog xD [.seq 1 (s.map bV)] (.str (dm s)):=by
 refine Fn.of_image mixed yC x8 rfl fun ho=>?_;unfold pd;simp only[oks,ok,and_true]at ho;clear ho;have hrl:=zo s.length s (zBf _);have hrm:=IK s.length s (zBf _);simp(disch:=omega) [-zAa];refine zd (yU s hs) fun _=>?_;unfold dm;generalize cT s=l at *;simp(disch:=omega) [-zAa];generalize hw:jL none l=w;have hwm:=Ey l none (fun r hr=>(hrm r hr).1);rw[hw]at hwm
 refine an (fun(q:Nat×List Nat)=>⟨[(3,.seq 1 (l.map rV)),(4,.ref 0 q.2.length),(5,.int .i64 q.1)],[some (.arr j5 1 (q.2.map rV))]⟩)
  (fun q=>q.1<=l.length/\q.2.length<=q.1/\q.2++jL (lA l q.1) (l.drop q.1)=w) (fun q=>l.length-q.1) [.r 4 j5 1] _ (0,[]) rfl (by simp) (by simp[<-hw,lA]) ?_
 rintro⟨k,out⟩ ⟨hk,hol,hi⟩ N hN;simp only at hk hol hi;rcases place l k hk with⟨he,hd⟩|⟨hlt,x,hx,hd⟩<;>rw[hd]at hi
 ·simp[jL]at hi
  subst hi;simp(disch:=omega) [-zAa,he];refine ae (Ct out (by omega) hwm) rfl fun _=>?_
  simp(disch:=omega) [-zAa]
 ·have hp1:lA l (k+1)=some x:=by simp[lA,hx]
  simp only[jL,<-hp1]at hi;have skip:(x=10/\lA l k=some 13)->out++jL (lA l (k+1)) (l.drop (k+1))=w:=fun h=>by rw[if_pos h]at hi;simpa using hi
  have put:¬(x=10/\lA l k=some 13)->(out++[if x=13 then 10 else if x=0 then 65533 else x])++jL (lA l (k+1)) (l.drop (k+1))=w:=fun h=>by rw[if_neg h]at hi;simpa using hi
  clear hi;replace skip:=hid skip
  replace put:=hid put;have hxr:=(hrm x (zAc hx)).1
  have fin:∀τ:St,∀o2:List Nat,τ.nrm [3,4,5]=⟨[(3,.seq 1 (l.map rV)),(4,.ref 0 o2.length),(5,.int .i64 ((k+1:Nat):Int))],[some (.arr j5 1 (o2.map rV))]⟩->o2.length<=k+1->o2++jL (lA l (k+1)) (l.drop (k+1))=w->N τ:=by
   intro τ o2 h1 h2 h3;exact hN.out _<|Nx.mk (k+1,o2) h1 ⟨by simp only;omega,h2,h3⟩ (by simp only;omega)
  by_cases h10:x=10
  ·subst h10
   rcases zBg k with hk0|hk0
   ·subst hk0
    simp(disch:=omega) [-zAa,hx];exact fin _ (out++[10]) (by simp) (by simp only[zAj,zAd,zBe];omega) (by simpa using put.out (by simp[lA]))
   ·obtain⟨y,hy⟩:=a8 (l:=l) (k:=k-1) (by omega)
    have hkt:((k:Int)-1).toNat=k-1:=by omega
    simp(disch:=omega) [-zAa,hx,hy,hkt];refine BrKd.mk (fun h=>?_) (fun h=>?_)
    ·simp(disch:=omega) [-zAa,hx]
     exact fin _ out (by simp) (by omega) (skip.out ⟨rfl,by simp[lA,hy];omega⟩)
    ·simp(disch:=omega) [-zAa,hx]
     exact fin _ (out++[10]) (by simp) (by simp;omega) (by simpa using put.out (by simp[lA,hy];omega))
  ·by_cases h13:x=13
   ·subst h13
    simp(disch:=omega) [-zAa,hx];exact fin _ (out++[10]) (by simp) (by simp;omega) (by simpa using put.out (by simp))
   ·by_cases h0:x=0
    ·subst h0
     simp(disch:=omega) [-zAa,hx];exact fin _ (out++[65533]) (by simp) (by simp;omega) (by simpa using put.out (by simp))
    ·simp(disch:=omega) [-zAa,hx,h10,h13,h0]
     exact fin _ (out++[x]) (by simp) (by simp;omega) (by simpa[h13,h0]using put.out (by simp[h10]))
theorem Gw(s:Str)(hs:s.length<=1000000):Fn Tryz.prog FV [.str s] (.bool (decide (dm s=s))):=by
 refine Fn.of_image mixed Gj Gb rfl fun ho=>?_;unfold wZ;simp only[oks,ok,and_true]at ho;simp(disch:=omega) [-zAa];refine ae (by simpa using jS s hs) rfl fun _=>?_
 simp(disch:=omega) [-zAa]
def ou(s:Str):Str:=s.take 30
theorem jC(s:Str):Fn Tryz.prog DD [.str s] (.str (ou s)):=by
 refine Fn.of_image mixed Eg D2 rfl fun ho=>?_;unfold tA;simp only[oks,ok,and_true]at ho;simp(disch:=omega) [-zAa,ou];refine BrKd.mk (fun h=>?_) (fun h=>?_)
 ·simp(disch:=omega) [-zAa,h]
 ·simp(disch:=omega) [-zAa,h]
  rw[zAh (by omega)]
def JK(a:Attr):Attr:=⟨ou a.name,ou a.value⟩
mutual
def Ni:Node->Nat->List Node×Nat
 |⟨_,_,_,_,ks⟩,m=>cZ ks m
def cZ:List Node->Nat->List Node×Nat
 |[],m=>([],m)
 |n::l,m=>if m=0 then([],0)else
   (⟨n.kind,ou n.name,(n.attrs.take 5).map JK,ou n.text,(Ni n (m-1)).1⟩::(cZ l (Ni n (m-1)).2).1,(cZ l (Ni n (m-1)).2).2)
end
theorem uF(n:Node)(m:Nat):Ni n m=cZ n.kids m:=by cases n;simp[Ni]
theorem wQ:∀(l:List Node)(m:Nat),al (cZ l m).1+(cZ l m).2<=m:=by
 refine aN (fun m=>by simp[cZ,al]) ?_
 intro n l h1 h2 m;simp only[cZ,uF];split
 ·simp[al]
 ·have g1:=h1 (m-1)
  have g2:=h2 (cZ n.kids (m-1)).2;simp only[al,GU];omega
theorem lj:∀l:List Node,l.length<=al l
 |[]=>by simp[al]
 |n::l=>by have:=lj l;simp[al,dZ];omega
theorem EG:∀(l:List Node)(m:Nat),m<=1000->Fn Tryz.prog jw [.seq 5 (l.map Node.v),.int .i64 m] (.tup [.seq 5 ((cZ l m).1.map Node.v),.int .i64 (cZ l m).2]):=by
 have key:∀l:List Node,(∀n∈l,∀m:Nat,m<=1000->Fn Tryz.prog jw [.seq 5 (n.kids.map Node.v),.int .i64 m] (.tup [.seq 5 ((cZ n.kids m).1.map Node.v),.int .i64 (cZ n.kids m).2]))->
  ∀m:Nat,m<=1000->Fn Tryz.prog jw [.seq 5 (l.map Node.v),.int .i64 m] (.tup [.seq 5 ((cZ l m).1.map Node.v),.int .i64 (cZ l m).2]):=by
  intro l hrec m hm;refine Fn.of_image mixed Ej D5 rfl fun ho=>?_;unfold tC;simp only[oks,ok,and_true]at ho;have hlen:l.length<=140737488355328:=by have:=ho.1;simp at this;exact this.1
  clear ho;simp(disch:=omega) [-zAa];generalize hR:cZ l m=R
  refine an (fun(q:Nat×Nat×List Node)=>⟨[(0,.seq 5 (l.map Node.v)),(1,.int .i64 q.2.1),(6,.ref 0 q.2.2.length),(7,.int .i64 q.1)],[some (.arr aG 5 (q.2.2.map Node.v))]⟩)
   (fun q=>q.1<=l.length/\q.2.2.length+q.2.1<=1000/\(q.2.2++(cZ (l.drop q.1) q.2.1).1,(cZ (l.drop q.1) q.2.1).2)=R) (fun q=>l.length-q.1) [.r 6 aG 5] _ (0,m,[]) rfl (by simp) (by simp[hR];omega) ?_
  rintro⟨k,m,out⟩ ⟨hk,hol,hi⟩ N hN;simp only at hk hol hi;rcases place l k hk with⟨he,hd⟩|⟨hlt,x,hx,hd⟩<;>rw[hd]at hi
  ·simp[cZ]at hi
   subst hi;simp(disch:=omega) [-zAa,he]
  ·simp only[cZ,uF]at hi
   rcases zBg m with hm0|hm0
   ·subst hm0
    simp at hi;subst hi;simp(disch:=omega) [-zAa]
   ·rw[if_neg (by omega)]at hi
    have hxc:=wQ x.kids (m-1);replace hi:=hid hi;simp(disch:=omega) [-zAa,hx];refine ae (jC _) rfl fun _=>?_;simp(disch:=omega) [-zAa];refine ae (jC _) rfl fun _=>?_;simp(disch:=omega) [-zAa];have hm1:((m:Int)-1)=((m-1:Nat):Int):=by omega
    rw[hm1];refine aP (hrec x (zAc hx) (m-1) (by omega)) (by simp) fun _=>?_
    generalize cZ x.kids (m-1)=ck at *;simp(disch:=omega) [-zAa];have hl5:(zAb 5 x.attrs).length=min 5 x.attrs.length:=zAe
    refine an (fun(q:Nat)=>⟨[(0,.seq 5 (l.map Node.v)),(1,.int .i64 ck.2),(6,.ref 0 out.length),(7,.int .i64 k),(8,.ptr 1 0),(9,.ref 2 ((x.attrs.take 5).take q).length),(10,.int .i64 q)],
     [some (.arr aG 5 (out.map Node.v)),some (.box [.int .i64 x.kind,.str (ou x.name),.seq 2 (x.attrs.map Attr.v),.str (ou x.text),.seq 5 (ck.1.map Node.v)]),some (.arr cF 2 ((((x.attrs.take 5).take q).map JK).map Attr.v))]⟩)
     (fun q=>q<=(x.attrs.take 5).length) (fun q=>(x.attrs.take 5).length-q) [.r 9 cF 2] _ 0 rfl (by simp) (by simp) ?_
    rintro j hj N2 hN2;have hjl:((x.attrs.take 5).take j).length=j:=by rw[zAe];omega
    rcases place (x.attrs.take 5) j hj with⟨he2,hd2⟩|⟨hlt2,y,hy,hd2⟩
    ·have htk:(x.attrs.take 5).take j=x.attrs.take 5:=zAh (by omega)
     rw[htk]at hjl⊢;have hjj:(j<x.attrs.length/\j=5)\/j=x.attrs.length:=by omega
     rcases hjj with hjj|hjj
     all_goals
      simp(disch:=omega) [-zAa,hjj,hjl];refine hN.out _<|Nx.mk (k+1,ck.2,out++[⟨x.kind,ou x.name,(x.attrs.take 5).map JK,ou x.text,ck.1⟩]) (by simp) ⟨by simp only;omega,by simp;omega,by simpa using hi.out⟩ (by simp only;omega)
    ·have hy2:x.attrs[j]?=some y:=by rw[zAf]at hy;simpa[show j<5 by omega]using hy
     rw[hjl];simp(disch:=omega) [-zAa,hy2,hjl];refine aF (jC _) rfl ?_;simp(disch:=omega) [-zAa,hy2,hjl];refine aF (jC _) rfl ?_;simp(disch:=omega) [-zAa,hy2,hjl];refine hN2.out _<|Nx.mk (j+1) ?_ (by omega) (by omega)
     have hjl2:((x.attrs.take 5).take (j+1)).length=j+1:=by rw[zAe];omega
     rw[hjl2,dc hy];simp[JK]
 have all:∀l:List Node,∀n∈l,∀m:Nat,m<=1000->Fn Tryz.prog jw [.seq 5 (n.kids.map Node.v),.int .i64 m] (.tup [.seq 5 ((cZ n.kids m).1.map Node.v),.int .i64 (cZ n.kids m).2]):=by
  refine aN (fun x hx=>by cases hx) ?_
  intro n l h1 h2 x hx;rcases zBa.1 hx with rfl|hx
  ·exact key _ h1
  ·exact h2 x hx
 exact fun l=>key l (all l)
theorem EF(l:List Node):Fn Tryz.prog DF [.seq 5 (l.map Node.v)] (.seq 5 ((cZ l 40).1.map Node.v)):=by
 refine Fn.of_image mixed Ei D4 rfl fun ho=>?_;unfold tB;simp only[oks,ok,and_true]at ho;clear ho;simp(disch:=omega) [-zAa];refine aP (EG l 40 (by omega)) (by simp) fun _=>?_
 simp(disch:=omega) [-zAa]
def HA:List Str:=[[97],[98],[112],[117,108],[108,105],[98,114],[105,109,103],[100,105,118],[115,99,114,105,112,116],[120,45,121]]
def uN(s:Str):Str:=if named s then s else(HA[sumB s%10]?).getD []
theorem Cq(s:Str)(hs:s.length<=1000000):Fn Tryz.prog Bf [.str s] (.str (uN s)):=by
 refine Fn.of_image mixed B5 BK rfl fun ho=>?_;unfold rC;simp only[oks,ok,and_true]at ho;clear ho;simp(disch:=omega) [-zAa]
 refine an (fun(p:Nat×Nat)=>⟨[(0,.str s),(3,.seq 1 (HA.map .str)),(4,.int .i64 p.2),(5,.int .i64 p.1)],[]⟩)
  (fun p=>p.1<=s.length/\p.2<=255*p.1/\p.2+sumB (s.drop p.1)=sumB s) (fun p=>s.length-p.1) [] _ (0,0) rfl (by simp[HA]) (by simp) ?_
 rintro⟨k,n⟩ ⟨hk,hn,hi⟩ N hN;simp only at hk hn hi;rcases place s k hk with⟨he,hd⟩|⟨hlt,x,hx,hd⟩<;>rw[hd,sumB]at hi
 ·have hm:n%10<10:=zDb _ (by decide)
  have ht:((n:Int)%10).toNat=n%10:=by omega
  obtain⟨y,hy⟩:=a8 (l:=HA) (k:=n%10) hm;have hpl:HA.length=10:=rfl;simp only[zDd]at hi;simp(disch:=omega) [-zAa,he];refine ae (jR s) rfl fun _=>?_;simp(disch:=omega) [-zAa];refine BrK.mk (fun h=>?_) (fun h=>?_)
  ·simp(disch:=omega) [-zAa]
   simp[uN,h]
  ·simp(disch:=omega) [-zAa,hpl,ht,hy]
   simp[uN,h,<-hi,hy]
 ·have hx8:=x.toNat_lt
  simp(disch:=omega) [-zAa,hx];refine hN.out _<|Nx.mk (k+1,n+x.toNat) (by simp) ⟨by simp only;omega,by simp only;omega,by simp only;omega⟩ (by simp only;omega)
def dS(b:UInt8):Bool:=(decide (65<=b.toNat)&&decide (b.toNat<=90))||(decide (b.toNat=9)||(decide (b.toNat=10)||(decide (b.toNat=12)||(decide (b.toNat=32)||(decide (b.toNat=47)||(decide (b.toNat=62)||decide (b.toNat=61)))))))
def dO(s:Str):Bool:=s.all (fun b=>!dS b)&&(decide (dm s=s)&&decide (0<s.length))
theorem p5(s:Str)(hs:s.length<=1000000):Fn Tryz.prog pL [.str s] (.bool (dO s)):=by
 refine Fn.of_image mixed pV pQ rfl fun ho=>?_;unfold i7;simp only[oks,ok,and_true]at ho;clear ho;simp(disch:=omega) [-zAa];refine ae (Gw s hs) rfl fun _=>?_;simp(disch:=omega) [-zAa];generalize hr:dO s=r;refine an (fun k:Nat=>⟨[(0,.str s),(3,.bool (decide (dm s=s))),(4,.int .i64 k)],[]⟩) (fun k=>k<=s.length/\((s.drop k).all (fun b=>!dS b)&&(decide (dm s=s)&&decide (0<s.length)))=r) (fun k=>s.length-k) [] _ 0 rfl (by simp[*]) (by simp[*,<-hr,dO]) ?_
 rintro k ⟨hk,hi⟩ N hN;rcases place s k hk with⟨he,hd⟩|⟨hlt,x,hx,hd⟩<;>rw[hd]at hi<;>replace hi:=hid hi
 ·have hi:=hi.out
  simp(disch:=omega) [-zAa,he]
  repeat' (first|(refine BrKd.mk (fun h=>?_) (fun h=>?_)<;>simp(disch:=omega) [*])|(refine BrK.mk (fun h=>?_) (fun h=>?_)<;>simp(disch:=omega) [*]))
  all_goals (first|simpa[*]using hi|(simp[*]at hi;simp[<-hi, *]))
 ·simp only[zBh]at hi
  have no:dS x=true->r=false:=fun h=>by have hi:=hi.out;simpa[h]using hi.symm
  have go:dS x=false->((s.drop (k+1)).all (fun b=>!dS b)&&(decide (dm s=s)&&decide (0<s.length)))=r:=fun h=>by have hi:=hi.out;rw[h]at hi;simpa using hi
  replace no:=hid no;replace go:=hid go;simp(disch:=omega) [-zAa,hx]
  repeat' (first|(refine BrKd.mk (fun h=>?_) (fun h=>?_)<;>simp(disch:=omega) [*])|(refine BrK.mk (fun h=>?_) (fun h=>?_)<;>simp(disch:=omega) [*]))
  all_goals first
   |(refine hN.out _<|Nx.mk (k+1) (by simp[*]) ⟨by omega,go.out ?_⟩ (by omega);simp[dS, *];done)
   |(refine hN.out _<|Nx.mk (k+1) (by simp[*]) ⟨by omega,go.out ?_⟩ (by omega);unfold dS;simp;omega)
   |(rw[no.out ?_];simp[dS, *];done)
   |(refine(no.out ?_);simp[dS, *];done)
   |(refine(no.out ?_).symm;simp[dS, *];done)
def LU:List Str:=[[105,100],[104,114,101,102],[116,105,116,108,101],[100,97,116,97,45,97],[111,110,99,108,105,99,107]]
def co(s:Str):Str:=if dO s then s else(LU[s.length%5]?).getD []
theorem re(s:Str)(hs:s.length<=1000000):Fn Tryz.prog qH [.str s] (.str (co s)):=by
 refine Fn.of_image mixed qU qR rfl fun ho=>?_;unfold jE;simp only[oks,ok,and_true]at ho;clear ho;simp(disch:=omega) [-zAa];refine ae (p5 s hs) rfl fun _=>?_;simp(disch:=omega) [-zAa];have hm:s.length%5<5:=zDb _ (by decide)
 have ht:((s.length:Int)%5).toNat=s.length%5:=by omega
 obtain⟨y,hy⟩:=a8 (l:=LU) (k:=s.length%5) hm
 have hy2:([.str [105,100],.str [104,114,101,102],.str [116,105,116,108,101],.str [100,97,116,97,45,97],.str [111,110,99,108,105,99,107]]:List V)[s.length%5]?=some (.str y):=by
  have:(LU.map V.str)[s.length%5]?=some (.str y):=by rw[zBi,hy];rfl
  exact this
 refine BrK.mk (fun h=>?_) (fun h=>?_)
 ·simp(disch:=omega) [-zAa]
  simp[co,h]
 ·simp(disch:=omega) [-zAa,ht,hy2]
  simp[co,h,hy]
def bL:List Node->List Node->List Node
 |out,[]=>out
 |out,n::l=>
   if n.kind=2/\n.text=[]then bL out l
   else match out[out.length-1]? with
    |some o=>if n.kind=2/\o.kind=2 then bL (out.set (out.length-1) ⟨o.kind,o.name,o.attrs,o.text++n.text,o.kids⟩) l else bL (out++[n]) l
    |none=>bL (out++[n]) l
def dv(l:List Node):List Node:=bL [] l
theorem oR(l:List Node)(hl:l.length<=1000000)(ht:∀n∈l,n.text.length<=1000000):Fn Tryz.prog xA [.seq 5 (l.map Node.v)] (.seq 5 ((dv l).map Node.v)):=by
 refine Fn.of_image mixed yz x5 rfl fun ho=>?_;unfold o9;simp only[oks,ok,and_true]at ho;clear ho;simp(disch:=omega) [-zAa];generalize hw:dv l=w
 refine an (fun(q:Nat×List Node)=>⟨[(0,.seq 5 (l.map Node.v)),(3,.ref 0 q.2.length),(4,.int .i64 q.1)],[some (.arr aG 5 (q.2.map Node.v))]⟩)
  (fun q=>q.1<=l.length/\q.2.length<=q.1/\(∀n∈q.2,n.text.length<=1000000*q.1)/\bL q.2 (l.drop q.1)=w) (fun q=>l.length-q.1) [.r 3 aG 5] _ (0,[]) rfl (by simp) (by simp[<-hw,dv]) ?_
 rintro⟨k,out⟩ ⟨hk,hol,htx,hi⟩ N hN;simp only at hk hol htx hi;rcases place l k hk with⟨he,hd⟩|⟨hlt,x,hx,hd⟩<;>rw[hd]at hi
 ·simp[bL]at hi
  subst hi;simp(disch:=omega) [-zAa,he]
 ·have hxt:=ht x (zAc hx)
  simp only[bL]at hi;by_cases h2:x.kind=2
  ·by_cases ht0:x.text=[]
   ·rw[if_pos ⟨h2,ht0⟩]at hi
    replace hi:=hid hi;simp(disch:=omega) [-zAa,hx,h2,ht0];refine hN.out _<|Nx.mk (k+1,out) (by simp) ⟨by simp only;omega,by simp only;omega,fun n hn=>by have:=htx n hn;simp only;omega,hi.out⟩ (by simp only;omega)
   ·rw[if_neg (fun h=>ht0 h.2)]at hi
    rcases zBg out.length with h0|h0
    ·have ho0:out=[]:=zAg h0
     subst ho0;simp only[List.getElem?_nil,List.nil_append]at hi;replace hi:=hid hi;simp(disch:=omega) [-zAa,hx,h2,ht0];refine hN.out _<|Nx.mk (k+1,[x]) (by simp[h2]) ⟨by simp only;omega,by simp,fun n hn=>by simp at hn;subst hn;simp only;omega,hi.out⟩ (by simp only;omega)
    ·obtain⟨o,ho⟩:=a8 (l:=out) (k:=out.length-1) (by omega)
     rw[ho]at hi;simp only at hi;have hot:=htx o (zAc ho);have hoz:((out.length:Int)-1).toNat=out.length-1:=by omega
     replace hi:=hid hi;simp(disch:=omega) [-zAa,hx,h2,ht0,hoz,ho];refine BrKd.mk (fun hk2=>?_) (fun hk2=>?_)
     ·simp(disch:=omega) [-zAa,hx,h2,ht0,hoz,ho,hk2]
      have hi:=hi.out;rw[if_pos ⟨h2,hk2⟩]at hi;refine hN.out _<|Nx.mk (k+1,out.set (out.length-1) ⟨o.kind,o.name,o.attrs,o.text++x.text,o.kids⟩) (by simp[zDe,hk2]) ⟨by simp only;omega,by simp;omega,?_,hi⟩ (by simp only;omega)
      intro n hn;rcases zBj hn with hn|rfl
      ·have:=htx n hn;simp only;omega
      ·simp only[zAj];omega
     ·simp(disch:=omega) [-zAa,hx,h2,ht0,hoz,ho,hk2]
      have hi:=hi.out;rw[if_neg (fun h=>hk2 h.2)]at hi;refine hN.out _<|Nx.mk (k+1,out++[x]) (by simp[h2]) ⟨by simp only;omega,by simp;omega,?_,hi⟩ (by simp only;omega)
      intro n hn;simp only[zBb,zCe]at hn;rcases hn with hn|rfl
      ·have:=htx n hn;simp only;omega
      ·simp only;omega
  ·rw[if_neg (fun h=>h2 h.1)]at hi
   have hi2:bL (out++[x]) (l.drop (k+1))=w:=by
    split at hi
    ·rw[if_neg (fun h=>h2 h.1)]at hi;exact hi
    ·exact hi
   clear hi;replace hi2:=hid hi2;simp(disch:=omega) [-zAa,hx,h2];refine hN.out _<|Nx.mk (k+1,out++[x]) (by simp) ⟨by simp only;omega,by simp;omega,?_,hi2.out⟩ (by simp only;omega)
   intro n hn;simp only[zBb,zCe]at hn;rcases hn with hn|rfl
   ·have:=htx n hn;simp only;omega
   ·simp only;omega
end Go.Abs.F
end
section
namespace Go.Abs.F
open Go.Proofs
attribute [-simp] getElem?_pos zCh List.map_map
def z6(k:Int):Int:=if k<1\/3<k then 1 else k
def lO:List Attr->List Attr->List Attr
 |acc,[]=>acc
 |acc,a::l=>lO (if(gE acc (co a.name)).isSome then acc else acc++[⟨co a.name,dm a.value⟩]) l
mutual
def cq:Node->Node
 |⟨k,nm,a,t,ks⟩=>if z6 k=1 then⟨1,uN nm,lO [] a,[],dv (wo ks)⟩else⟨z6 k,[],[],dm t,[]⟩
def wo:List Node->List Node
 |[]=>[]
 |n::l=>cq n::wo l
end
theorem wn:∀l:List Node,wo l=l.map cq
 |[]=>by simp[wo]
 |n::l=>by simp[wo,wn l]
theorem kq(n:Node):cq n=if z6 n.kind=1 then⟨1,uN n.name,lO [] n.attrs,[],dv (n.kids.map cq)⟩else⟨z6 n.kind,[],[],dm n.text,[]⟩:=by
 cases n;simp[cq,wn]
def Al(n:Node):Prop:=n.name.length<=1000/\n.text.length<=1000/\n.attrs.length<=1000/\∀a∈n.attrs,a.name.length<=1000/\a.value.length<=1000
theorem pC(s:Str):(dm s).length<=4*s.length:=by
 have h1:=zj (jL none (cT s));have h2:=Ez (cT s) none;have h3:=zo s.length s (zBf _);unfold dm;omega
theorem Gn(n:Node)(h:Al n):(cq n).text.length<=4000:=by
 rw[kq];split
 ·simp
 ·have:=pC n.text;have:=h.2.1;simp only;omega
theorem Cr:∀(l:List Node),ap Al l->al l<=1000->Fn Tryz.prog il [.seq 5 (l.map Node.v)] (.seq 5 ((dv (l.map cq)).map Node.v)):=by
 have key:∀l:List Node,(∀n∈l,ap Al n.kids->al n.kids<=1000->Fn Tryz.prog il [.seq 5 (n.kids.map Node.v)] (.seq 5 ((dv (n.kids.map cq)).map Node.v)))->
  ap Al l->al l<=1000->Fn Tryz.prog il [.seq 5 (l.map Node.v)] (.seq 5 ((dv (l.map cq)).map Node.v)):=by
  intro l hrec hfi hc;refine Fn.of_image mixed B6 BL rfl fun ho=>?_;unfold rD;simp only[oks,ok,and_true]at ho;clear ho;have hlen:=lj l;simp(disch:=omega) [-zAa]
  refine an (fun(k:Nat)=>⟨[(0,.seq 5 (l.map Node.v)),(3,.ref 0 k),(4,.int .i64 k)],[some (.arr aG 5 (((l.take k).map cq).map Node.v))]⟩)
   (fun k=>k<=l.length) (fun k=>l.length-k) [.r 3 aG 5] _ 0 rfl (by simp) (by simp) ?_
  rintro k hk N hN;have hkl:(l.take k).length=k:=by rw[zAe];omega
  rcases place l k hk with⟨he,hd⟩|⟨hlt,x,hx,hd⟩
  ·have htk:l.take k=l:=zAh (by omega)
   rw[htk];simp(disch:=omega) [-zAa,he];refine uO (oR (l.map cq) (by simp;omega) (fun n hn=>?_)) fun _=>?_
   ·obtain⟨y,hy,rfl⟩:=zCf.1 hn
    have:=Gn y (fJ hfi hy).1;omega
   ·simp(disch:=omega) [-zAa]
  ·have hxm:=zAc hx
   obtain⟨hfx,hfk⟩:=fJ hfi hxm;obtain⟨hx1,hx2,hx3,hx4⟩:=hfx;have hcx:=uG hxm
   have fin:∀τ:St,τ.nrm [0,3,4]=⟨[(0,.seq 5 (l.map Node.v)),(3,.ref 0 (k+1)),(4,.int .i64 ((k+1:Nat):Int))],[some (.arr aG 5 (((l.take k).map cq).map Node.v++[(cq x).v]))]⟩->N τ:=by
    intro τ h;refine hN.out _<|Nx.mk (k+1) ?_ (by omega) (by omega)
    rw[h,dc hx];simp
   have hkind:x.kind<1\/3<x.kind\/x.kind=1\/x.kind=2\/x.kind=3:=by omega
   rcases hkind with h|h|h|h|h
   case inr.inr.inr.inr.inl|inr.inr.inr.inr.inr=>
    have hg:cq x=⟨x.kind,[],[],dm x.text,[]⟩:=by
     rw[kq,h];simp[z6]
    simp(disch:=omega) [-zAa,hx,h,hkl];refine ae (by simpa using jS x.text (by omega)) rfl fun _=>?_
    simp(disch:=omega) [-zAa,hkl];refine fin _ ?_;rw[hg,h];simp
   all_goals
    have hg:cq x=⟨1,uN x.name,lO [] x.attrs,[],dv (x.kids.map cq)⟩:=by
     rw[kq,if_pos];unfold z6;split<;>omega
    simp(disch:=omega) [-zAa,hx,h,hkl];refine ae (Cq x.name (by omega)) rfl fun _=>?_
    simp(disch:=omega) [-zAa,hkl];generalize hga:lO [] x.attrs=GA at hg
    refine an (fun(q:Nat×List Attr)=>⟨[(0,.seq 5 (l.map Node.v)),(3,.ref 0 k),(4,.int .i64 k),(5,.ptr 1 0),(6,.int .i64 q.1)],
     [some (.arr aG 5 (((l.take k).map cq).map Node.v)),some (.box [.int .i64 1,.str (uN x.name),.ref 2 q.2.length,.str [],.nil 5]),some (.arr cF 2 (q.2.map Attr.v))]⟩)
     (fun q=>q.1<=x.attrs.length/\q.2.length<=q.1/\lO q.2 (x.attrs.drop q.1)=GA) (fun q=>x.attrs.length-q.1) [.b 1 2 cF 2] _ (0,[]) rfl (by simp) (by simp[hga]) ?_
    rintro⟨j,acc⟩ ⟨hj,hal,hi⟩ N2 hN2;simp only at hj hal hi;rcases place x.attrs j hj with⟨he2,hd2⟩|⟨hlt2,y,hy,hd2⟩<;>rw[hd2]at hi
    ·simp only[lO]at hi
     subst hi;simp(disch:=omega) [-zAa,hx,he2];refine aP (hrec x hxm hfk (by omega)) (by simp) fun _=>?_
     simp(disch:=omega) [-zAa,hkl];refine fin _ ?_;rw[hg];simp
    ·obtain⟨hy1,hy2⟩:=hx4 y (zAc hy)
     simp only[lO]at hi;replace hi:=hid hi;simp(disch:=omega) [-zAa,hx,hy];refine aF (re y.name (by omega)) rfl ?_
     simp(disch:=omega) [-zAa,hx,hy];refine aF (by simpa using jS y.value (by omega)) rfl ?_
     simp(disch:=omega) [-zAa,hx,hy];refine ae (by simpa using yS ⟨1,uN x.name,acc,[],[]⟩ (co y.name)) rfl fun _=>?_
     simp(disch:=omega) [-zAa,hx,hy];refine BrK.mk (fun hb=>?_) (fun hb=>?_)
     ·simp(disch:=omega) [-zAa]
      have hi:=hi.out;rw[if_pos hb]at hi;refine hN2.out _<|Nx.mk (j+1,acc) (by simp) ⟨by simp only;omega,by simp only;omega,hi⟩ (by simp only;omega)
     ·simp(disch:=omega) [-zAa,hkl]
      have hi:=hi.out;rw[if_neg (by simp[hb])]at hi
      refine hN2.out _<|Nx.mk (j+1,acc++[⟨co y.name,dm y.value⟩]) (by simp) ⟨by simp only;omega,by simp;omega,hi⟩ (by simp only;omega)
 have all:∀l:List Node,∀n∈l,ap Al n.kids->al n.kids<=1000->Fn Tryz.prog il [.seq 5 (n.kids.map Node.v)] (.seq 5 ((dv (n.kids.map cq)).map Node.v)):=by
  refine aN (fun x hx=>by cases hx) ?_
  intro n l h1 h2 x hx;rcases zBa.1 hx with rfl|hx
  ·exact key _ h1
  ·exact h2 x hx
 exact fun l=>key l (all l)
theorem J0:∀(l:List Node)(m:Nat),ap Al (cZ l m).1:=by
 refine aN (fun m=>by simp[cZ,ap]) ?_
 intro n l h1 h2 m;simp only[cZ,uF];split
 ·simp[ap]
 ·simp only[ap,NI]
  refine⟨⟨⟨by simp[ou];omega,by simp[ou];omega,by simp;omega,fun a ha=>?_⟩,h1 _⟩,h2 _⟩
  simp only[zCf]at ha;obtain⟨b,_,rfl⟩:=ha;simp[JK,ou];omega
def et(l:List Node):List Node:=dv ((cZ l 40).1.map cq)
theorem Cs(l:List Node):Fn Tryz.prog Bh [.seq 5 (l.map Node.v)] (.seq 5 ((et l).map Node.v)):=by
 refine Fn.of_image mixed B8 BN rfl fun ho=>?_;unfold rE;simp only[oks,ok,and_true]at ho;clear ho;simp(disch:=omega) [-zAa];refine aP (EF l) (by simp) fun _=>?_
 simp(disch:=omega) [-zAa];refine aP (Cr (cZ l 40).1 (J0 l 40) (by have:=wQ l 40;omega)) (by simp) fun _=>?_
 simp(disch:=omega) [-zAa,et]
def je(w:Str):Str->Bool
 |[]=>ew [] w
 |b::t=>ew (b::t) w||je w t
theorem vZ(w:Str):∀s:Str,s.length<w.length->je w s=false
 |[],h=>by simp[je,ew];intro h';subst h';simp at h
 |b::t,h=>by
   have:=vZ w t (by simp at h;omega)
   simp only[je,this,Bool.or_false,ew,Bool.and_eq_false_iff,decide_eq_false_iff_not];left;omega
theorem JB(w:Str)(s:Str)(h:w.length<=s.length):je w s=(decide (s.take w.length=w)||(if s=[]then false else je w s.tail)):=by
 cases s with
 |nil=>have:w=[]:=zAg (by simpa using h);subst this;simp[je,ew]
 |cons b t=>
   simp only[zAd]at h;simp[je,ew,decide_eq_true h]
theorem EE(s w:Str)(hw0:0<w.length)(hs:s.length<=1000000000)(hwl:w.length<=1000000000):Fn Tryz.prog DC [.str s,.str w] (.bool (je w s)):=by
 refine Fn.of_image mixed Ef D1 rfl fun ho=>?_;unfold tz;simp only[oks,ok,and_true]at ho;clear ho;simp(disch:=omega) [-zAa];generalize hr:je w s=r;refine an (fun k:Nat=>⟨[(0,.str s),(1,.str w),(5,.int .i64 k)],[]⟩) (fun k=>k<=s.length/\je w (s.drop k)=r) (fun k=>s.length-k) [] _ 0 rfl (by simp) (by simp[hr]) ?_
 rintro k ⟨hk,hi⟩ N hN;by_cases hlt:k+w.length<=s.length
 ·rw[JB w _ (by simp;omega),if_neg (by simp;omega),List.tail_drop]at hi
  replace hi:=hid hi;have e:((k:Int)+(w.length:Int)).toNat-k=w.length:=by omega
  simp(disch:=omega) [-zAa,e];refine BrKd.mk (fun h=>?_) (fun h=>?_)
  ·simp(disch:=omega) [-zAa]
   have hi:=hi.out;simpa[h]using hi
  ·simp(disch:=omega) [-zAa]
   have hi:=hi.out;refine hN.out _<|Nx.mk (k+1) (by simp) ⟨by omega,by simpa[h]using hi⟩ (by omega)
 ·rw[vZ w _ (by simp;omega)]at hi
  subst hi;simp(disch:=omega) [-zAa]
def dw(b:UInt8):UInt8:=if 65<=b.toNat/\b.toNat<=90 then b8 (b.toNat+32)else b
theorem Cu(s:Str)(hs:s.length<=1000000000):Fn Tryz.prog Bj [.str s] (.str (s.map dw)):=by
 refine Fn.of_image mixed Ca BP rfl fun ho=>?_;unfold rG;simp only[oks,ok,and_true]at ho;clear ho;simp(disch:=omega) [-zAa]
 refine an (fun(k:Nat)=>⟨[(0,.str s),(3,.ref 0 k),(4,.int .i64 k)],[some (.arr iB 1 (((s.take k).map dw).map bV))]⟩)
  (fun k=>k<=s.length) (fun k=>s.length-k) [.r 3 iB 1] _ 0 rfl (by simp) (by simp) ?_
 rintro k hk N hN;have hkl:(s.take k).length=k:=by rw[zAe];omega
 rcases place s k hk with⟨he,hd⟩|⟨hlt,x,hx,hd⟩
 ·have htk:s.take k=s:=zAh (by omega)
  rw[htk];simp(disch:=omega) [-zAa,he,-H8]
 ·simp(disch:=omega) [-zAa,hx]
  have fin:∀τ:St,τ.nrm [0,3,4]=⟨[(0,.str s),(3,.ref 0 (k+1)),(4,.int .i64 ((k+1:Nat):Int))],[some (.arr iB 1 (((s.take k).map dw).map bV++[bV (dw x)]))]⟩->N τ:=by
   intro τ h;refine hN.out _<|Nx.mk (k+1) ?_ (by omega) (by omega)
   rw[h,dc hx];simp
  repeat' (first
   |(refine BrKd.mk (fun h=>?_) (fun h=>?_)<;>simp(disch:=omega) [hkl, *])
   |(refine BrK.mk (fun h=>?_) (fun h=>?_)<;>simp(disch:=omega) [hkl, *]))
  all_goals
   first
   |(have hf:dw x=b8 (x.toNat+32):=by rw[dw,if_pos (by omega)])
   |(have hf:dw x=x:=by rw[dw,if_neg (by omega)])
   refine fin _ ?_;rw[hf];simp(disch:=omega) [rM]
def EU(b:UInt8):Bool:=decide (b.toNat=9)||(decide (b.toNat=10)||(decide (b.toNat=12)||decide (b.toNat=32)))
theorem yR(b:UInt8):Fn Tryz.prog xw [.int .u8 b.toNat] (.bool (EU b)):=by
 refine Fn.of_image mixed yv xX rfl fun ho=>?_;unfold oY;simp only[oks,ok,and_true]at ho;clear ho;simp(disch:=omega) [-zAa,EU]
 repeat' (first|(refine BrKd.mk (fun h=>?_) (fun h=>?_)<;>simp(disch:=omega) [*])|(refine BrK.mk (fun h=>?_) (fun h=>?_)<;>simp(disch:=omega) [*]))
def y8(b:UInt8):Bool:=EU b||(decide (b.toNat=47)||decide (b.toNat=62))
def rl(nm:Str)(s:Str):Bool:=decide ((s.take (2+nm.length)).map dw=[60,47]++nm)&&(match s[2+nm.length]? with
 |some c=>y8 c
 |none=>false)
def dK(nm:Str):Nat->Str->Int
 |_,[]=>-1
 |i,b::t=>if rl nm (b::t)then i else dK nm (i+1) t
def ends(s nm:Str):Int:=dK nm 0 s
theorem rk(nm:Str):∀(s:Str)(i:Nat),s.length<=2+nm.length->dK nm i s=-1
 |[],i,h=>rfl
 |b::t,i,h=>by
   have:=rk nm t (i+1) (by simp at h;omega)
   simp only[dK,this];rw[if_neg];simp only[rl,Bool.and_eq_true,not_and,zCj];intro _;rw[List.getElem?_eq_none (by omega)]
theorem Cp(s nm:Str)(hs:s.length<=1000000000)(hn:nm.length<=1000000):Fn Tryz.prog Be [.str s,.str nm] (.int .i64 (ends s nm)):=by
 refine Fn.of_image mixed B4 BJ rfl fun ho=>?_;unfold rB;simp only[oks,ok,and_true]at ho;clear ho;simp(disch:=omega) [-zAa];generalize hr:ends s nm=r;refine an (fun k:Nat=>⟨[(0,.str s),(1,.str nm),(5,.int .i64 (2+nm.length)),(6,.int .i64 k)],[]⟩) (fun k=>k<=s.length/\dK nm k (s.drop k)=r) (fun k=>s.length-k) [] _ 0 rfl (by simp) (by simp[<-hr,ends]) ?_
 rintro k ⟨hk,hi⟩ N hN;by_cases hlt:k+(2+nm.length)<s.length
 ·obtain⟨x,hx⟩:=a8 (l:=s) (k:=k) (by omega)
  obtain⟨c,hc⟩:=a8 (l:=s) (k:=k+(2+nm.length)) hlt;have hd:=sx hx
  have hat:rl nm (s.drop k)=(decide (((s.drop k).take (2+nm.length)).map dw=[60,47]++nm)&&y8 c):=by
   simp only[rl,List.getElem?_drop,hc]
  rw[hd]at hi;simp only[dK]at hi;rw[<-hd,hat]at hi;replace hi:=hid hi;have hkt:((k:Int)+(2+(nm.length:Int))).toNat=k+(2+nm.length):=by omega
  simp(disch:=omega) [-zAa,hkt,hc];have hlb:((s.drop k).take (2+nm.length)).length<=1000000000:=by simp;omega
  refine ae (Cu _ hlb) rfl fun _=>?_;generalize hT:((s.drop k).take (2+nm.length)).map dw=T at hi;have no:(decide (T=[60,47]++nm)&&y8 c)=false->dK nm (k+1) (s.drop (k+1))=r:=fun h=>by have hi:=hi.out;rw[if_neg (by rw[h];exact Bool.false_ne_true)]at hi;exact hi
  have yes:(decide (T=[60,47]++nm)&&y8 c)=true->r=k:=fun h=>by have hi:=hi.out;rw[if_pos h]at hi;exact hi.symm
  replace no:=hid no;replace yes:=hid yes;simp(disch:=omega) [-zAa]
  repeat' (first
   |(refine BrKd.mk (fun h=>?_) (fun h=>?_)<;>simp(disch:=omega) [*])
   |(refine BrK.mk (fun h=>?_) (fun h=>?_)<;>simp(disch:=omega) [*])
   |(refine ae (yR _) rfl (fun _=>?_)<;>simp(disch:=omega) [*]))
  all_goals first
   |(refine hN.out _<|Nx.mk (k+1) (by simp) ⟨by omega,no.out ?_⟩ (by omega);simp_all[y8];done)
   |(rw[yes.out ?_];simp_all[y8];done)
   |(refine(yes.out ?_).symm;simp_all[y8];done)
 ·rw[rk nm _ _ (by simp;omega)]at hi
  subst hi;simp(disch:=omega) [-zAa]
def fk(par:Str)(n:Node):Bool:=
 if AL par then false
 else if raw par then decide (n.kind=2)&&decide (ends (n.text++[60,47]++par++[62]) par=n.text.length)
 else !decide (n.kind=1)|| !jT par n.name
theorem Co(par:Str)(n:Node)(hp:par.length<=1000000)(ht:n.text.length<=100000000):Fn Tryz.prog Bd [.str par,n.v] (.bool (fk par n)):=by
 refine Fn.of_image mixed B3 BI rfl fun ho=>?_;unfold rA;simp only[oks,ok,and_true]at ho;clear ho;simp(disch:=omega) [-zAa,fk];refine ae (rf _) rfl fun _=>?_;simp(disch:=omega) [-zAa];refine ae (tl _) rfl fun _=>?_;simp(disch:=omega) [-zAa];refine BrK.mk (fun hv=>?_) (fun hv=>?_)
 ·simp(disch:=omega) [-zAa,hv]
 ·simp(disch:=omega) [-zAa,hv]
  refine BrK.mk (fun hr=>?_) (fun hr=>?_)
  ·simp(disch:=omega) [-zAa,hr]
   refine BrKd.mk (fun hk=>?_) (fun hk=>?_)
   ·simp(disch:=omega) [-zAa,hk]
    have e:n.text++[60,47]++par++[62]=n.text++60::47::(par++[62]):=by simp
    have hE:=Cp (n.text++[60,47]++par++[62]) par (by simp;omega) hp
    rw[e]at hE;refine aF hE rfl ?_;simp(disch:=omega) [-zAa,hk]
   ·simp(disch:=omega) [-zAa,hk]
  ·simp(disch:=omega) [-zAa,hr]
   refine ae (m4 _ _) rfl fun _=>?_;simp(disch:=omega) [-zAa]
   repeat' (first|(refine BrKd.mk (fun h=>?_) (fun h=>?_)<;>simp(disch:=omega) [*])|(refine BrK.mk (fun h=>?_) (fun h=>?_)<;>simp(disch:=omega) [*]))
def aK(par:Str)(l:List Node):List Node:=l.filter (fk par)
theorem lQ(par:Str)(l:List Node)(hp:par.length<=1000000)(hl:l.length<=1000000)(ht:∀n∈l,n.text.length<=100000000):
 Fn Tryz.prog tP [.str par,.seq 5 (l.map Node.v)] (.seq 5 ((aK par l).map Node.v)):=by
 refine Fn.of_image mixed ua tW rfl fun ho=>?_;unfold lT;simp only[oks,ok,and_true]at ho;clear ho;simp(disch:=omega) [-zAa];generalize hw:aK par l=w
 refine an (fun(q:Nat×List Node)=>⟨[(0,.str par),(1,.seq 5 (l.map Node.v)),(5,.ref 0 q.2.length),(6,.int .i64 q.1)],[some (.arr aG 5 (q.2.map Node.v))]⟩)
  (fun q=>q.1<=l.length/\q.2.length<=q.1/\q.2++aK par (l.drop q.1)=w) (fun q=>l.length-q.1) [.r 5 aG 5] _ (0,[]) rfl (by simp) (by simp[<-hw]) ?_
 rintro⟨k,out⟩ ⟨hk,hol,hi⟩ N hN;simp only at hk hol hi;rcases place l k hk with⟨he,hd⟩|⟨hlt,x,hx,hd⟩<;>rw[hd]at hi
 ·simp[aK]at hi
  subst hi;simp(disch:=omega) [-zAa,he]
 ·simp only[aK,zBd]at hi
  replace hi:=hid hi;simp(disch:=omega) [-zAa,hx];refine ae (by simpa using Co par x hp (ht x (zAc hx))) rfl fun _=>?_
  simp(disch:=omega) [-zAa];refine BrK.mk (fun h=>?_) (fun h=>?_)
  ·simp(disch:=omega) [-zAa,hx]
   have hi:=hi.out;refine hN.out _<|Nx.mk (k+1,out++[x]) (by simp) ⟨by simp only;omega,by simp;omega,?_⟩ (by simp only;omega)
   simpa[h,aK]using hi
  ·simp(disch:=omega) [-zAa,hx]
   have hi:=hi.out;refine hN.out _<|Nx.mk (k+1,out) (by simp) ⟨by simp only;omega,by simp only;omega,?_⟩ (by simp only;omega)
   simpa[h,aK]using hi
def kF:Str:=[45,45,62]
mutual
def aO:Node->List Node
 |⟨k,nm,a,t,ks⟩=>if k=3/\je kF t=true then[]else if k=1 then[⟨k,nm,a,t,aK nm (dv (qn (fk nm) ks))⟩]else[⟨k,nm,a,t,ks⟩]
def qn(f:Node->Bool):List Node->List Node
 |[]=>[]
 |n::l=>(if f n then aO n else[])++qn f l
end
theorem uV(f:Node->Bool):∀l:List Node,qn f l=(l.filter f).flatMap aO
 |[]=>by simp[qn]
 |n::l=>by
   simp only[qn,uV f l,zBd];cases f n<;>simp
theorem pz(n:Node):aO n=if n.kind=3/\je kF n.text=true then[]else if n.kind=1 then[⟨n.kind,n.name,n.attrs,n.text,aK n.name (dv ((aK n.name n.kids).flatMap aO))⟩]else[n]:=by
 cases n;simp[aO,uV,aK]
def gG(l:List Node):List Node:=dv (l.flatMap aO)
def bA(l:List Node):Nat:=(l.map fun n=>n.text.length).sum
theorem mj:∀{l:List Node}{n:Node},n∈l->n.text.length<=bA l
 |[],n,h=>by cases h
 |x::l,n,h=>by
   simp only[bA,zAi,zCb];rcases zBa.1 h with rfl|h
   ·omega
   ·have:=mj h;simp only[bA]at this;omega
theorem sR(a b:List Node):bA (a++b)=bA a+bA b:=by simp[bA]
theorem sQ(f:Node->Bool):∀l:List Node,bA (l.filter f)<=bA l
 |[]=>by simp[bA]
 |n::l=>by
   have:=sQ f l;simp only[bA,zBd]at *;split<;>simp<;>omega
theorem CW:∀(l:List Node)(i:Nat)(o n:Node),l[i]?=some o->bA (l.set i n)+o.text.length=bA l+n.text.length
 |[],i,o,n,h=>by simp at h
 |x::l,0,o,n,h=>by simp at h;subst h;simp[bA];omega
 |x::l,i+1,o,n,h=>by
   have:=CW l i o n (by simpa using h)
   simp only[bA,zCg,zAi,zCb]at *;omega
theorem io:∀(l out:List Node),(bL out l).length<=out.length+l.length/\bA (bL out l)<=bA out+bA l
 |[],out=>by simp[bL,bA]
 |n::l,out=>by
   have hc:bA (n::l)=n.text.length+bA l:=by simp[bA]
   have h1:=io l out;have h2:=io l (out++[n]);rw[sR]at h2;have hn:bA [n]=n.text.length:=by simp[bA]
   simp only[zAj,zAd,zBe]at h2;simp only[bL,zAd];split
   ·omega
   ·split
    ·rename_i o ho
     split
     ·have h3:=io l (out.set (out.length-1) ⟨o.kind,o.name,o.attrs,o.text++n.text,o.kids⟩)
      have h4:=CW out (out.length-1) o ⟨o.kind,o.name,o.attrs,o.text++n.text,o.kids⟩ ho;simp only[List.length_set,zAj]at h3 h4;omega
     ·omega
    ·omega
theorem iN(l:List Node):(dv l).length<=l.length/\bA (dv l)<=bA l:=by
 have:=io l [];simpa[dv,bA]using this
theorem AS(n:Node):(aO n).length<=1/\bA (aO n)<=n.text.length:=by
 rw[pz];split
 ·simp[bA]
 ·split<;>simp[bA]
theorem eO:∀l:List Node,(l.flatMap aO).length<=l.length/\bA (l.flatMap aO)<=bA l
 |[]=>by simp[bA]
 |n::l=>by
   have h1:=AS n;have h2:=eO l;have hc:bA (n::l)=n.text.length+bA l:=by simp[bA]
   simp only[zBc,zAj,sR,zAd];omega
theorem jM(par:Str)(l:List Node):(aK par l).length<=l.length/\bA (aK par l)<=bA l:=⟨List.length_filter_le _ _,sQ _ _⟩
def Ak(n:Node):Prop:=n.name.length<=1000/\n.kids.length<=1000/\bA n.kids<=1000000
theorem wD:∀(l:List Node),ap Ak l->l.length<=1000->bA l<=1000000->Fn Tryz.prog eU [.seq 5 (l.map Node.v)] (.seq 5 ((gG l).map Node.v)):=by
 have key:∀l:List Node,(∀n∈l,∀l':List Node,(∀y∈l',y∈n.kids)->ap Ak n.kids->l'.length<=1000->bA l'<=1000000->Fn Tryz.prog eU [.seq 5 (l'.map Node.v)] (.seq 5 ((gG l').map Node.v)))->
  (∀n∈l,Ak n/\ap Ak n.kids)->l.length<=1000->bA l<=1000000->Fn Tryz.prog eU [.seq 5 (l.map Node.v)] (.seq 5 ((gG l).map Node.v)):=by
  intro l hrec hfi hlen hts;refine Fn.of_image mixed wg vR rfl fun ho=>?_;unfold nj;simp only[oks,ok,and_true]at ho;clear ho;simp(disch:=omega) [-zAa];generalize hw:l.flatMap aO=w;have hws:=eO l;rw[hw]at hws
  refine an (fun(q:Nat×List Node)=>⟨[(0,.seq 5 (l.map Node.v)),(3,.ref 0 q.2.length),(4,.int .i64 q.1)],[some (.arr aG 5 (q.2.map Node.v))]⟩)
   (fun q=>q.1<=l.length/\q.2.length<=q.1/\q.2++(l.drop q.1).flatMap aO=w) (fun q=>l.length-q.1) [.r 3 aG 5] _ (0,[]) rfl (by simp) (by simp[<-hw]) ?_
  rintro⟨k,out⟩ ⟨hk,hol,hi⟩ N hN;simp only at hk hol hi;rcases place l k hk with⟨he,hd⟩|⟨hlt,x,hx,hd⟩<;>rw[hd]at hi
  ·simp at hi
   subst hi;simp(disch:=omega) [-zAa,he];refine uO (oR out (by omega) (fun n hn=>by have:=mj hn;omega)) fun _=>?_
   simp(disch:=omega) [-zAa,gG,hw]
  ·have hxm:=zAc hx
   obtain⟨⟨hx1,hx2,hx3⟩,hxk⟩:=hfi x hxm;have hxt:=mj hxm;rw[zBc,pz]at hi;replace hi:=hid hi
   have fin:∀τ:St,∀o2:List Node,τ.nrm [0,3,4]=⟨[(0,.seq 5 (l.map Node.v)),(3,.ref 0 o2.length),(4,.int .i64 ((k+1:Nat):Int))],[some (.arr aG 5 (o2.map Node.v))]⟩->o2.length<=k+1->o2++(l.drop (k+1)).flatMap aO=w->N τ:=by
    intro τ o2 h1 h2 h3;exact hN.out _<|Nx.mk (k+1,o2) h1 ⟨by simp only;omega,h2,h3⟩ (by simp only;omega)
   by_cases h3:x.kind=3
   ·simp(disch:=omega) [-zAa,hx,h3]
    refine ae (EE x.text kF (by simp[kF]) (by omega) (by simp[kF])) rfl fun _=>?_
    simp(disch:=omega) [-zAa];refine BrK.mk (fun hb=>?_) (fun hb=>?_)
    ·simp(disch:=omega) [-zAa]
     have hi:=hi.out;rw[if_pos ⟨h3,hb⟩]at hi;exact fin _ out (by simp) (by omega) (by simpa using hi)
    ·simp(disch:=omega) [-zAa,hx,h3]
     have hi:=hi.out;rw[if_neg (by simp[hb]),if_neg (by omega)]at hi
     exact fin _ (out++[x]) (by simp[h3]) (by simp;omega) (by simpa using hi)
   ·by_cases h1:x.kind=1
    ·have hi:=hi.out
     rw[if_neg (by simp[h3]),if_pos h1]at hi
     have hf1:=jM x.name x.kids;have hf2:=eO (aK x.name x.kids);have hf3:=iN ((aK x.name x.kids).flatMap aO);simp(disch:=omega) [-zAa,hx,h1];refine eA (lQ x.name x.kids (by omega) (by omega) (fun n hn=>by have:=mj hn;omega)) (by simp) ?_
     simp(disch:=omega) [-zAa,hx,h1];refine eA (hrec x hxm (aK x.name x.kids) (fun y hy=>(zCa.1 hy).1) hxk (by omega) (by omega)) (by simp) ?_
     simp(disch:=omega) [-zAa,hx,h1];refine eA (lQ x.name (gG (aK x.name x.kids)) (by omega) (by simp only[gG];omega) (fun n hn=>by have:=mj hn;simp only[gG]at this;omega)) (by simp) ?_
     simp(disch:=omega) [-zAa,hx,h1];exact fin _ (out++[⟨x.kind,x.name,x.attrs,x.text,aK x.name (dv ((aK x.name x.kids).flatMap aO))⟩]) (by simp[h1,gG]) (by simp;omega) (by simpa using hi)
    ·have hi:=hi.out
     rw[if_neg (by simp[h3]),if_neg h1]at hi
     simp(disch:=omega) [-zAa,hx,h1,h3];exact fin _ (out++[x]) (by simp) (by simp;omega) (by simpa using hi)
 have all:∀l:List Node,∀n∈l,∀l':List Node,(∀y∈l',y∈n.kids)->ap Ak n.kids->l'.length<=1000->bA l'<=1000000->Fn Tryz.prog eU [.seq 5 (l'.map Node.v)] (.seq 5 ((gG l').map Node.v)):=by
  refine aN (fun x hx=>by cases hx) ?_
  intro n l h1 h2 x hx;rcases zBa.1 hx with rfl|hx
  ·intro l' hs hf
   exact key l' (fun m hm=>h1 m (hs m hm)) (fun m hm=>fJ hf (hs m hm))
  ·exact h2 x hx
 exact fun l hf=>key l (all l) (fun n hn=>fJ hf hn)
def right(s:Str):Bool:=decide (dm s=s)
def jK:List Attr->Str->Bool
 |[],_=>false
 |a::l,s=>if a.name=s then true else jK l s
def uk:List Attr->List Attr->Int
 |_,[]=>0
 |pre,a::l=>if dO a.name then(if jK pre a.name then 5 else uk (pre++[a]) l)else 4
def nL:List Attr->Bool
 |[]=>true
 |a::l=>right a.value&&nL l
def m8(n:Node):Int:=
 if n.text=[]then(if named n.name then(if uk [] n.attrs=0 then(if nL n.attrs then 0 else 2)else uk [] n.attrs)else 4)else 7
theorem wL:∀(l pre:List Attr),uk pre l=0\/uk pre l=4\/uk pre l=5
 |[],pre=>by simp[uk]
 |a::l,pre=>by
   simp only[uk];split
   ·split
    ·simp
    ·exact wL l _
   ·simp
def ku(n:Node):Prop:=n.name.length<=1000000/\n.text.length<=1000000/\n.attrs.length<=1000000/\∀a∈n.attrs,a.name.length<=1000000/\a.value.length<=1000000
def qC(n:Node)(txt:Bool):Int:=
 if n.kind=1 then m8 n
 else if n.kind=2\/n.kind=3 then(if n.name=[]/\n.attrs=[]/\n.kids=[]then(if right n.text/\(n.kind=2->¬n.text=[]/\txt=false)then 0 else 2)else 7)
 else 7
mutual
def PY:Node->Int
 |⟨_,_,_,_,ks⟩=>sc false ks
def sc:Bool->List Node->Int
 |_,[]=>0
 |txt,n::l=>if qC n txt=0 then(if PY n=0 then sc (decide (n.kind=2)) l else PY n)else qC n txt
end
theorem Bn(n:Node):PY n=sc false n.kids:=by cases n;simp[PY]
def may(l:List Node):Int:=sc false l
def fv(l:List Node)(k:Nat):Bool:=decide (0<k)&&(match l[k-1]? with
 |some n=>decide (n.kind=2)
 |none=>false)
mutual
def Tu:Node->Bool
 |⟨_,_,_,_,ks⟩=>G7 ks
def G7:List Node->Bool
 |[]=>true
 |n::l=>(!(decide (n.kind=3)&&je kF n.text)&&(n.kids.all (fk n.name)&&Tu n))&&G7 l
end
theorem QB(n:Node):Tu n=G7 n.kids:=by cases n;simp[Tu]
def uW(l:List Node):Bool:=decide (may l=0)&&G7 l
def L7(A:Constraint->Str->Bool)(p:Policy)(l:List Node):Int:=(dn A p [] l 0).1
def ik(A:Constraint->Str->Bool)(p:Policy)(l:List Node):Bool:=uW l&&decide (L7 A p l<0)
theorem bX{f:Node->Prop}:∀{l:List Node},ap f l↔∀n∈l,f n/\ap f n.kids
 |[]=>by simp[ap]
 |n::l=>by simp[ap,d2,bX (l:=l)]
theorem AB{f g:Node->Prop}(h:∀n,f n->ap f n.kids->g n):∀l:List Node,ap f l->ap g l:=by
 refine aN (fun _=>by simp[ap]) ?_
 intro n l h1 h2 ha;simp only[ap,d2]at ha⊢;exact⟨⟨h n ha.1.1 ha.1.2,h1 ha.1.2⟩,h2 ha.2⟩
theorem ir(a b:List Node):al (a++b)=al a+al b:=by
 induction a with
 |nil=>simp[al]
 |cons x a ih=>simp only[List.cons_append,al,ih];omega
theorem rp(f:Node->Bool):∀l:List Node,al (l.filter f)<=al l
 |[]=>by simp[al]
 |n::l=>by
   have:=rp f l;simp only[zBd];split<;>simp only[al]<;>omega
theorem At:∀(l:List Node)(i:Nat)(o n:Node),l[i]?=some o->al n.kids=al o.kids->al (l.set i n)=al l
 |[],i,o,n,h,_=>by simp at h
 |x::l,0,o,n,h,hk=>by simp at h;subst h;simp[al,dZ,hk]
 |x::l,i+1,o,n,h,hk=>by
   have:=At l i o n (by simpa using h) hk
   simp only[zCg,al,this]
theorem jy:∀(l out:List Node),al (bL out l)<=al out+al l
 |[],out=>by simp[bL,al]
 |n::l,out=>by
   have h1:=jy l out;have h2:=jy l (out++[n]);rw[ir]at h2;have hn:al [n]=GU n:=by simp[al]
   have hc:al (n::l)=GU n+al l:=by simp[al]
   simp only[bL];split
   ·omega
   ·split
    ·rename_i o ho
     split
     ·have h3:=jy l (out.set (out.length-1) ⟨o.kind,o.name,o.attrs,o.text++n.text,o.kids⟩)
      have e:=At out (out.length-1) o ⟨o.kind,o.name,o.attrs,o.text++n.text,o.kids⟩ ho rfl;rw[e]at h3;omega
     ·omega
    ·omega
theorem nR(l:List Node):al (dv l)<=al l:=by
 have:=jy l [];simpa[dv,al]using this
theorem ge{P:Node->Prop}(hP:∀k n a t ks t',P ⟨k,n,a,t,ks⟩->P ⟨k,n,a,t',ks⟩):∀(l out:List Node),(∀n∈out,P n)->(∀n∈l,P n)->∀n∈bL out l,P n
 |[],out,ho,_=>by simpa[bL]using ho
 |n::l,out,ho,hl=>by
   have hn:=hl n (by simp)
   have hl':∀n∈l,P n:=fun x hx=>hl x (by simp[hx])
   have hon:∀x∈out++[n],P x:=fun x hx=>by
    rcases zBb.1 hx with h|h
    ·exact ho x h
    ·simp at h;subst h;exact hn
   simp only[bL];split
   ·exact ge hP l out ho hl'
   ·split
    ·rename_i o hoo
     split
     ·refine ge hP l _ (fun x hx=>?_) hl'
      rcases zBj hx with h|h
      ·exact ho x h
      ·subst h
       have:=ho o (zAc hoo);obtain⟨k0,n0,a0,t0,ks0⟩:=o;exact hP _ _ _ _ _ _ this
     ·exact ge hP l _ hon hl'
    ·exact ge hP l _ hon hl'
theorem Jc{P:Node->Prop}(hP:∀k n a t ks t',P ⟨k,n,a,t,ks⟩->P ⟨k,n,a,t',ks⟩){l:List Node}(h:∀n∈l,P n):∀n∈dv l,P n:=ge hP l [] (fun _ h=>by cases h) h
def gw(n:Node):Prop:=n.name.length<=1000/\n.attrs.length<=1000/\(∀a∈n.attrs,a.name.length<=1000/\a.value.length<=1000)/\n.kids.length<=1000/\bA n.kids<=1000000
theorem jx{l:List Node}(h:ap gw l):ap gw (dv l):=
 bX.2 (Jc (P:=fun n=>gw n/\ap gw n.kids) (fun k n a t ks t' h=>h) (bX.1 h))
def MZ(n:Node):Prop:=n.name.length<=30/\n.text.length<=30/\n.attrs.length<=5/\∀a∈n.attrs,a.name.length<=30/\a.value.length<=30
theorem ER:∀(l:List Node)(m:Nat),ap MZ (cZ l m).1:=by
 refine aN (fun m=>by simp[cZ,ap]) ?_
 intro n l h1 h2 m;simp only[cZ,uF];split
 ·simp[ap]
 ·simp only[ap,NI]
  refine⟨⟨⟨by simp[ou];omega,by simp[ou];omega,by simp;omega,fun a ha=>?_⟩,h1 _⟩,h2 _⟩
  simp only[zCf]at ha;obtain⟨b,_,rfl⟩:=ha;simp[JK,ou];omega
theorem Dr{l:List Str}{m:Nat}(h:l.all (fun s=>decide (s.length<=m))=true)(i:Nat):((l[i]?).getD []).length<=m:=by
 cases hi:l[i]? with
 |none=>simp
 |some x=>simpa using List.all_eq_true.1 h x (zAc hi)
theorem pY:∀(l acc:List Attr),(∀a∈l,a.name.length<=30/\a.value.length<=30)->(∀a∈acc,a.name.length<=1000/\a.value.length<=1000)->
 (lO acc l).length<=acc.length+l.length/\∀a∈lO acc l,a.name.length<=1000/\a.value.length<=1000
 |[],acc,_,ha=>by simpa[lO]using ha
 |x::l,acc,hl,ha=>by
   have hx:=hl x (by simp)
   have hl':∀a∈l,a.name.length<=30/\a.value.length<=30:=fun a h=>hl a (by simp[h])
   simp only[lO];split
   ·have:=pY l acc hl' ha
    exact⟨by simp;omega,this.2⟩
   ·have:=pY l (acc++[⟨co x.name,dm x.value⟩]) hl' (fun a h=>by
     rcases zBb.1 h with h|h
     ·exact ha a h
     ·simp at h;subst h
      have h1:=pC x.value
      have h2:(co x.name).length<=1000:=by
       unfold co;split
       ·omega
       ·have:=Dr (l:=LU) (m:=1000) (by decide) (x.name.length%5)
        omega
      exact⟨h2,by simp only;omega⟩)
    exact⟨by have:=this.1;simp at this⊢;omega,this.2⟩
theorem uT(f:Node->Node)(c:Nat):∀l:List Node,(∀n∈l,(f n).text.length<=c)->bA (l.map f)<=c*l.length
 |[],_=>by simp[bA]
 |n::l,h=>by
   have h1:=h n (by simp)
   have h2:=uT f c l (fun x hx=>h x (by simp[hx]))
   simp only[bA,zAi,zCb,zAd,Nat.mul_succ]at *;omega
theorem Gp:∀l:List Node,ap MZ l->al l<=1000->ap gw (l.map cq)/\al (l.map cq)<=al l/\(∀n∈l.map cq,n.text.length<=120):=by
 refine aN (fun _ _=>by simp[ap,al]) ?_
 intro n l h1 h2 ha hc;simp only[ap,d2]at ha;simp only[al,dZ]at hc;obtain⟨g1,g2,g3⟩:=h2 ha.2 (by omega)
 obtain⟨k1,k2,k3⟩:=h1 ha.1.2 (by omega)
 have hw:(uN n.name).length<=1000:=by
  unfold uN;split
  ·have:=ha.1.1.1;omega
  ·have:=Dr (l:=HA) (m:=1000) (by decide) (sumB n.name%10);omega
 have hA:=pY n.attrs [] ha.1.1.2.2.2 (fun _ h=>by cases h)
 have hr:=pC n.text;have ht:=ha.1.1.2.1;have hat:=ha.1.1.2.2.1;have hm:=iN (n.kids.map cq);have hmc:=nR (n.kids.map cq);have hkl:=lj n.kids;have hts:=uT cq 120 n.kids (fun x hx=>k3 _ (zCc hx));have hts2:120*n.kids.length<=120*1000:=zCd _ (by omega)
 simp only[List.length_map]at hm;simp only[zBe,Nat.zero_add]at hA;refine⟨?_,?_,?_⟩
 ·simp only[zAi,ap,d2]
  refine⟨?_,g1⟩;rw[kq];split
  ·refine⟨⟨hw,?_,hA.2,?_,?_⟩,jx k1⟩
   ·simp only;omega
   ·simp only;omega
   ·simp only;omega
  ·exact⟨⟨by simp,by simp,by simp,by simp,by simp[bA]⟩,by simp[ap]⟩
 ·simp only[zAi,al,dZ]
  rw[kq];split
  ·simp only;omega
  ·simp only[al];omega
 ·intro x hx
  simp only[zAi,zBa]at hx;rcases hx with rfl|hx
  ·rw[kq]
   split
   ·simp
   ·simp only;omega
  ·exact g3 x hx
theorem te(l:List Node):ap gw (et l)/\al (et l)<=40/\bA (et l)<=4800:=by
 have hc:=wQ l 40;obtain⟨h1,h2,h3⟩:=Gp (cZ l 40).1 (ER l 40) (by omega)
 have hm:=iN ((cZ l 40).1.map cq);have hmc:=nR ((cZ l 40).1.map cq);have ht:=uT cq 120 (cZ l 40).1 (fun x hx=>h3 _ (zCc hx));have hl:=lj (cZ l 40).1;have:120*(cZ l 40).1.length<=120*40:=zCd _ (by omega)
 exact⟨jx h1,by unfold et;omega,by unfold et;omega⟩
theorem AT:∀l:List Node,ap gw l->ap gw (l.flatMap aO)/\al (l.flatMap aO)<=al l:=by
 refine aN (fun _=>by simp[ap,al]) ?_
 intro n l h1 h2 ha;simp only[ap,d2]at ha;obtain⟨g1,g2⟩:=h2 ha.2
 have happ:∀a b:List Node,ap gw a->ap gw b->ap gw (a++b):=fun a b ha hb=>bX.2 fun x hx=>by
  rcases zBb.1 hx with h|h
  ·exact bX.1 ha x h
  ·exact bX.1 hb x h
 have key:ap gw (aO n)/\al (aO n)<=GU n:=by
  rw[pz];split
  ·simp[ap,al]
  ·split
   ·have hk1:ap gw (n.kids.flatMap aO)/\al (n.kids.flatMap aO)<=al n.kids:=h1 ha.1.2
    have hf:=jM n.name n.kids;have hs:=eO (aK n.name n.kids);have hm:=iN ((aK n.name n.kids).flatMap aO);have hf2:=jM n.name (dv ((aK n.name n.kids).flatMap aO))
    have hsub:ap gw ((aK n.name n.kids).flatMap aO):=bX.2 fun x hx=>by
     obtain⟨y,hy,hxy⟩:=zDa.1 hx;exact bX.1 hk1.1 x (zDa.2 ⟨y,(zCa.1 hy).1,hxy⟩)
    have hcs:∀ks:List Node,al ((aK n.name ks).flatMap aO)<=al (ks.flatMap aO):=by
     intro ks
     induction ks with
     |nil=>simp[aK,al]
     |cons y ks ih=>
       simp only[aK,zBd,zBc,ir]at ih⊢;split
       ·simp only[zBc,ir];omega
       ·omega
    have hmy:=jx hsub;have hc1:=hcs n.kids;have hc2:=nR ((aK n.name n.kids).flatMap aO);have hc3:=rp (fk n.name) (dv ((aK n.name n.kids).flatMap aO));have hl:=ha.1.1.2.2.2;simp only[ap,d2,al,dZ];refine⟨⟨⟨⟨ha.1.1.1,ha.1.1.2.1,ha.1.1.2.2.1,?_,?_⟩,?_⟩,trivial⟩,?_⟩
    ·simp only;omega
    ·simp only;omega
    ·exact bX.2 fun x hx=>bX.1 hmy x (zCa.1 hx).1
    ·simp only[aK]at *;omega
   ·simp only[ap,d2,al]
    exact⟨⟨ha.1,trivial⟩,by omega⟩
 simp only[zBc,ir];exact⟨happ _ _ key.1 g1,by simp only[al];omega⟩
def fG(l:List Node):List Node:=gG (et l)
theorem Ep(l:List Node):ap gw (fG l)/\al (fG l)<=40/\bA (fG l)<=4800:=by
 obtain⟨h1,h2,h3⟩:=te l;obtain⟨g1,g2⟩:=AT (et l) h1;have hs:=eO (et l);have hm:=iN ((et l).flatMap aO);have hc:=nR ((et l).flatMap aO);exact⟨jx g1,by unfold fG gG;omega,by unfold fG gG;omega⟩
theorem Qh:∀l:List Node,ap gw l->bA l<=1000000->ap ku l:=by
 refine aN (fun _ _=>by simp[ap]) ?_
 intro n l h1 h2 ha ht;simp only[ap,d2]at ha⊢;have hc:bA (n::l)=n.text.length+bA l:=by simp[bA]
 obtain⟨⟨⟨a1,a2,a3,a4,a5⟩,a6⟩,a7⟩:=ha;exact⟨⟨⟨by omega,by omega,by omega,fun a h=>by have:=a3 a h;omega⟩,h1 a6 a5⟩,h2 a7 (by omega)⟩
theorem Qg(l:List Node)(h:ap gw l):ap EB l:=AB (fun n h _=>⟨by have:=h.2.1;omega,fun a ha=>(h.2.2.1 a ha).2⟩) l h
theorem Cm(l:List Node):Fn Tryz.prog Bc [.seq 5 (l.map Node.v)] (.seq 5 ((fG l).map Node.v)):=by
 refine Fn.of_image mixed B1 BH rfl fun ho=>?_;unfold rz;simp only[oks,ok,and_true]at ho;clear ho;obtain⟨h1,h2,h3⟩:=te l;have hl:=lj (et l);have hf:ap Ak (et l):=AB (fun n h _=>⟨h.1,h.2.2.2⟩) _ h1;simp(disch:=omega) [-zAa];refine aP (Cs l) (by simp) fun _=>?_
 simp(disch:=omega) [-zAa];refine aP (wD (et l) hf (by omega) (by omega)) (by simp) fun _=>?_
 simp(disch:=omega) [-zAa,fG]
theorem m5(s:Str):Fn Tryz.prog DI [.str s] (.bool (named s)):=by
 refine Fn.of_image mixed Em D8 rfl fun ho=>?_;unfold tF;simp only[oks,ok,and_true]at ho;simp(disch:=omega) [-zAa];generalize hr:named s=r;refine an (fun k:Nat=>⟨[(0,.str s),(7,.int .i64 s.length),(8,.int .i64 k)],[]⟩) (fun k=>k<=s.length/\(if k=0 then named s else(s.drop k).all de)=r) (fun k=>s.length-k) [] _ 0 rfl (by simp) (by simp[hr]) ?_
 rintro k ⟨hk,hi⟩ N hN;by_cases hk0:k=0
 ·subst hk0
  simp only[if_true]at hi;cases s with
  |nil=>simp[named]at hi;subst hi;simp(disch:=omega) [-zAa]
  |cons b t=>
    have hb:=b.toNat_lt;simp only[named,zBh]at hi;replace hi:=hid hi;simp(disch:=omega) [-zAa]
    repeat' (first|(refine BrKd.mk (fun h=>?_) (fun h=>?_)<;>simp(disch:=omega) [*])|(refine BrK.mk (fun h=>?_) (fun h=>?_)<;>simp(disch:=omega) [*]))
    all_goals first
     |(refine hN.out _<|Nx.mk 1 (by simp[*]) ⟨by simp,?_⟩ (by simp);have hi:=hi.out;simpa(disch:=omega) [de,small,decide_eq_true,decide_eq_false, *]using hi)
     |(have hi:=hi.out;simpa(disch:=omega) [de,small,decide_eq_true,decide_eq_false, *]using hi)
     |omega
 ·simp only[if_neg hk0]at hi
  rcases place s k hk with⟨he,hd⟩|⟨hlt,x,hx,hd⟩<;>rw[hd]at hi<;>replace hi:=hid hi
  ·simp(disch:=omega) [-zAa,he]
   have hi:=hi.out;have:s≠[]:=by intro h;subst h;simp at he;omega
   simpa[this]using hi
  ·have hb:=x.toNat_lt
   simp only[zBh]at hi;simp(disch:=omega) [-zAa,hx]
   repeat' (first|(refine BrKd.mk (fun h=>?_) (fun h=>?_)<;>simp(disch:=omega) [*])|(refine BrK.mk (fun h=>?_) (fun h=>?_)<;>simp(disch:=omega) [*]))
   all_goals first
    |omega
    |(refine hN.out _<|Nx.mk (k+1) (by simp[*]) ⟨by omega,?_⟩ (by omega);have hi:=hi.out;rw[if_neg (by omega)];simpa(disch:=omega) [de,small,decide_eq_true,decide_eq_false, *]using hi)
    |(have hi:=hi.out;simpa(disch:=omega) [de,small,decide_eq_true,decide_eq_false, *]using hi)
theorem GJ(s:Str):Fn Tryz.prog FX [.str s] (.bool (AL s)):=by
 refine Fn.of_image mixed Gm Ge rfl fun ho=>?_;unfold w6;simp only[oks,ok,and_true]at ho;simp(disch:=omega) [-zAa,AL]
 repeat' (first|(refine BrKd.mk (fun h=>?_) (fun h=>?_)<;>simp(disch:=omega) [*])|(refine BrK.mk (fun h=>?_) (fun h=>?_)<;>simp(disch:=omega) [*]))
theorem An(s:Str):Fn Tryz.prog I6 [.str s] (.bool (raw s)):=by
 refine Fn.of_image mixed JF Jy rfl fun ho=>?_;unfold Av;simp only[oks,ok,and_true]at ho;simp(disch:=omega) [-zAa,raw]
 repeat' (first|(refine BrKd.mk (fun h=>?_) (fun h=>?_)<;>simp(disch:=omega) [*])|(refine BrK.mk (fun h=>?_) (fun h=>?_)<;>simp(disch:=omega) [*]))
theorem wE(s:Str):Fn Tryz.prog vw [.str s] (.bool (plain s)):=by
 refine Fn.of_image mixed wi vT rfl fun ho=>?_;unfold nl;simp only[oks,ok,and_true]at ho;simp(disch:=omega) [-zAa,plain]
 repeat' (first|(refine BrKd.mk (fun h=>?_) (fun h=>?_)<;>simp(disch:=omega) [*])|(refine BrK.mk (fun h=>?_) (fun h=>?_)<;>simp(disch:=omega) [*])|(refine ae (m5 _) rfl (fun _=>?_)<;>simp(disch:=omega) [*])|(refine aF (m5 _) rfl ?_<;>simp(disch:=omega) [*]))
 all_goals simp[*]
theorem fO(p:Policy)(s:Str):Fn Tryz.prog xG [p.v,.str s] (.tup [((aU p.elements s).getD .zero).v,.bool (aU p.elements s).isSome]):=by
 refine Fn.of_image mixed yF yb rfl fun ho=>?_;unfold pg;simp only[oks,ok,and_true]at ho;have hlen:p.elements.length<=140737488355328:=by have:=ho.1;simp at this;exact this.2.1.1
 clear ho;simp(disch:=omega) [-zAa];generalize hr:aU p.elements s=r;refine an (fun k:Nat=>⟨[(1,.str s),(4,.ptr 0 0),(9,.seq 3 (p.elements.map Allowed.v)),(10,.int .i64 p.elements.length),(11,.int .i64 k)],[some (.box [.str [],.nil 1,.nil 5])]⟩) (fun k=>k<=p.elements.length/\aU (p.elements.drop k) s=r) (fun k=>p.elements.length-k) [] _ 0 rfl (by simp[*]) (by simp[*]) ?_
 rintro k ⟨hk,hi⟩ N hN;rcases place p.elements k hk with⟨he,hd⟩|⟨hlt,x,hx,hd⟩<;>rw[hd]at hi<;>replace hi:=hid hi
 ·simp(disch:=omega) [-zAa,he]
  simp[<-hi.out,aU,Allowed.zero]
 ·simp(disch:=omega) [-zAa,hx]
  repeat' (first|(refine BrKd.mk (fun h=>?_) (fun h=>?_)<;>simp(disch:=omega) [*])|(refine BrK.mk (fun h=>?_) (fun h=>?_)<;>simp(disch:=omega) [*]))
  all_goals first
   |(refine hN.out _<|Nx.mk (k+1) (by simp[*]) ⟨by omega,?_⟩ (by omega);simpa(disch:=omega) [*,decide_eq_true,decide_eq_false,aU]using hi.out)
   |(have hi:=hi.out;simp[aU, *]at hi;subst hi;simp[*])
end Go.Abs.F
end
