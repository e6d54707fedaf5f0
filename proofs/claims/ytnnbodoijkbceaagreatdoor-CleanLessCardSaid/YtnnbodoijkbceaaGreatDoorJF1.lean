/- What the first functions of the document's packages answer. No condition. -/
import Derived.Test.YtnnbodoijkbceaaGreatDoorJCodeA
import Derived.Lib.Bytealg
import Derived.Test.YtnnbodoijkbceaaGreatDoorJCodeW
set_option linter.all false
set_option maxHeartbeats 0
set_option maxRecDepth 100000
open List renaming reduceReplicate→zAa,take→zAb,mem_of_getElem?→zAc,length_cons→zAd,length_take→zAe,getElem?_take→zAf,map_cons→zAg,eq_nil_of_length_eq_zero→zAh,take_of_length_le→zAi,length_append→zAj,mem_cons→zBa,length_nil→zBb,mem_append→zBc,all_cons→zBf,getElem?_map→zBg,mem_or_eq_of_mem_set→zBh,sum_cons→zBi,mem_map_of_mem→zBj,mem_singleton→zCb,mem_map→zCc,set_cons_succ→zCd,flatten_cons→zCf,filter_cons→zCg,any_cons→zCi,map_set→zDa
open Nat renaming le_refl→zBd,eq_zero_or_pos→zBe,mul_le_mul_left→zCa,mod_lt→zCh,add_zero→zCj
open Option renaming not_isSome→zCe
open Option.some renaming injEq→zDb
open List.cons renaming injEq→zDc
section
namespace Go.Abs.F
open Go.Proofs
attribute [-simp] getElem?_pos
theorem mixed:Tryz.prog.follows .mixedOrders=true:=by kernel_rfl
abbrev Str:=List UInt8
def small(b:UInt8):Bool:=97<=b.toNat&&b.toNat<=122
theorem lw(b:UInt8):Fn Tryz.prog BC [.int .u8 b.toNat] (.bool (small b)):=by
 refine yoB Cc fun ho=>?_;simp only[oks,ok,and_true]at ho;simp(disch:=omega) [-zAa,small]
 repeat' (first|(refine BrKd.mk (fun h=>?_) (fun h=>?_)<;>simp(disch:=omega) [*])|(refine BrK.mk (fun h=>?_) (fun h=>?_)<;>simp(disch:=omega) [*]))
def dH(b:UInt8):Bool:=small b||(48<=b.toNat&&b.toNat<=57)||decide (b.toNat=45)
def named:Str->Bool
 |[]=>false
 |b::s=>small b&&(b::s).all dH
theorem lx(s:Str):Fn Tryz.prog BE [.str s] (.bool (named s)):=by
 refine yoB Ce fun ho=>?_;simp only[oks,ok,and_true]at ho;cases s with
 |nil=>simp(disch:=omega) [-zAa,named]
 |cons b t=>
   simp(disch:=omega) [-zAa];refine ah (lw b) rfl fun _=>?_;simp(disch:=omega) [-zAa];generalize hr:named (b::t)=r;generalize hs:b::t=s at *;refine au (fun k:Nat=>⟨[(0,.str s),(3,.bool (small b)),(4,.int .i64 k)],[]⟩) (fun k=>k<=s.length/\(small b&&(s.drop k).all dH)=r) (fun k=>s.length-k) [] _ 0 rfl (by simp) (by simp[<-hr,<-hs,named]) ?_
   rintro k ⟨hk,hi⟩ N hN;rcases place s k hk with⟨he,hd⟩|⟨hlt,x,hx,hd⟩<;>rw[hd]at hi<;>replace hi:=hid hi
   ·simp(disch:=omega) [-zAa,he]
    simpa using hi.out
   ·simp(disch:=omega) [-zAa,hx]
    repeat' (first|(refine BrKd.mk (fun h=>?_) (fun h=>?_)<;>simp(disch:=omega) [*])|(refine BrK.mk (fun h=>?_) (fun h=>?_)<;>simp(disch:=omega) [*])|(refine ah (lw _) rfl (fun _=>?_)<;>simp(disch:=omega) [*])|(refine aI (lw _) rfl ?_<;>simp(disch:=omega) [*]))
    all_goals first
     |(refine hN.out _<|Nx.mk (k+1) (by simp[*]) ⟨by omega,?_⟩ (by omega);simpa(disch:=omega) [*,decide_eq_true,decide_eq_false,dH]using hi.out)
     |(first|simpa(disch:=omega) [*,decide_eq_true,decide_eq_false,dH]using hi.out.symm|simpa(disch:=omega) [*,decide_eq_true,decide_eq_false,dH]using hi.out)
def plain(s:Str):Bool:=named s&&s.length<=16
theorem lu(s:Str):Fn Tryz.prog Bz [.str s] (.bool (plain s)):=by
 refine yoB B9 fun ho=>?_;simp only[oks,ok,and_true]at ho;simp(disch:=omega) [-zAa,plain]
 repeat' (first|(refine BrKd.mk (fun h=>?_) (fun h=>?_)<;>simp(disch:=omega) [*])|(refine BrK.mk (fun h=>?_) (fun h=>?_)<;>simp(disch:=omega) [*])|(refine ah (lx _) rfl (fun _=>?_)<;>simp(disch:=omega) [*])|(refine aI (lx _) rfl ?_<;>simp(disch:=omega) [*]))
structure Attr where
 name:Str
 value:Str
structure Constraint where
 kind:Int
 words:List Str
 regex:Str
structure Rule where
 name:Str
 value:Constraint
 req:Bool
structure Allowed where
 name:Str
 kids:List Str
 rules:List Rule
structure Policy where
 top:List Str
 elements:List Allowed
 unwrap:List Str
@[simp] def Attr.v (a:Attr):V:=.strct [.str a.name,.str a.value]
def Constraint.c(c:Constraint):List V:=[.int .i64 c.kind,.seq 1 (c.words.map .str),.str c.regex]
@[simp] def Constraint.v (c:Constraint):V:=.strct c.c
@[simp] def Rule.v (r:Rule):V:=.strct [.str r.name,.int .i64 r.value.kind,.seq 1 (r.value.words.map .str),.str r.value.regex,.bool r.req]
@[simp] def Allowed.v (a:Allowed):V:=.strct [.str a.name,.seq 1 (a.kids.map .str),.seq 5 (a.rules.map Rule.v)]
@[simp] def Policy.v (p:Policy):V:=.strct [.seq 1 (p.top.map .str),.seq 3 (p.elements.map Allowed.v),.seq 1 (p.unwrap.map .str)]
attribute [simp] Constraint.c
def aW:List Allowed->Str->Option Allowed
 |[],_=>none
 |e::l,s=>if e.name=s then some e else aW l s
def Allowed.zero:Allowed:=⟨[],[],[]⟩
theorem uv(p:Policy)(s:Str):Fn Tryz.prog Fg [p.v,.str s] (.tup [((aW p.elements s).getD .zero).v,.bool (aW p.elements s).isSome]):=by
 refine yoB FQ fun ho=>?_;simp only[oks,ok,and_true]at ho;simp(disch:=omega) [-zAa];generalize hr:aW p.elements s=r;refine au (fun k:Nat=>⟨[(1,.str s),(2,.ptr 0 0),(4,.ptr 1 0),(6,.int .i64 k)],[some (.box [.seq 1 (p.top.map .str),.seq 3 (p.elements.map Allowed.v),.seq 1 (p.unwrap.map .str)]),some (.box [.str [],.nil 1,.nil 5])]⟩) (fun k=>k<=p.elements.length/\aW (p.elements.drop k) s=r) (fun k=>p.elements.length-k) [] _ 0 rfl (by simp[*]) (by simp[*]) ?_
 rintro k ⟨hk,hi⟩ N hN;rcases place p.elements k hk with⟨he,hd⟩|⟨hlt,x,hx,hd⟩<;>rw[hd]at hi<;>replace hi:=hid hi
 ·simp(disch:=omega) [-zAa,he]
  simp[<-hi.out,aW,Allowed.zero]
 ·have hlen:p.elements.length<=140737488355328:=by have:=ho.1;simp at this;exact this.2.1.1
  simp(disch:=omega) [-zAa,hx]
  repeat' (first|(refine BrKd.mk (fun h=>?_) (fun h=>?_)<;>simp(disch:=omega) [*])|(refine BrK.mk (fun h=>?_) (fun h=>?_)<;>simp(disch:=omega) [*]))
  all_goals first
   |(refine hN.out _<|Nx.mk (k+1) (by simp[*]) ⟨by omega,?_⟩ (by omega);simpa(disch:=omega) [*,decide_eq_true,decide_eq_false,aW]using hi.out)
   |(have hi:=hi.out;simp[aW, *]at hi;subst hi;simp[*])
def fx(s:Str):Str×Bool:=match s[s.length-1]? with
 |some x=>if x.toNat=42 then(s.take (s.length-1),true)else(s,false)
 |none=>(s,false)
theorem GF(s:Str):Fn Tryz.prog Fc [.str s] (.tup [.str (fx s).1,.bool (fx s).2]):=by
 refine yoB FM fun ho=>?_;simp only[oks,ok,and_true]at ho;by_cases hp:0<s.length
 ·obtain⟨x,hx⟩:=bq (l:=s) (k:=s.length-1) (by omega)
  simp(disch:=omega) [-zAa];simp[hx]
  repeat' (first|(refine BrKd.mk (fun h=>?_) (fun h=>?_)<;>simp(disch:=omega) [*])|(refine BrK.mk (fun h=>?_) (fun h=>?_)<;>simp(disch:=omega) [*]))
  all_goals first|omega|simp[fx, *]
 ·have:s=[]:=by cases s;rfl;simp at hp
  subst this;simp(disch:=omega) [-zAa,fx]
def hasS:List Str->Str->Bool
 |[],_=>false
 |x::l,s=>if x=s then true else hasS l s
theorem kV(l:List Str)(s:Str):Fn Tryz.prog Iq [.seq 1 (l.map .str),.str s] (.bool (hasS l s)):=by
 refine yoB IT fun ho=>?_;simp only[oks,ok,and_true]at ho;simp(disch:=omega) [-zAa];generalize hr:hasS l s=r;refine au (fun k:Nat=>⟨[(0,.seq 1 (l.map .str)),(1,.str s),(5,.int .i64 k)],[]⟩) (fun k=>k<=l.length/\hasS (l.drop k) s=r) (fun k=>l.length-k) [] _ 0 rfl (by simp[*]) (by simp[*]) ?_
 rintro k ⟨hk,hi⟩ N hN;rcases place l k hk with⟨he,hd⟩|⟨hlt,x,hx,hd⟩<;>rw[hd]at hi<;>replace hi:=hid hi
 ·simp(disch:=omega) [-zAa,he]
  simpa[hasS]using hi.out
 ·have hlen:l.length<=140737488355328:=by have:=ho.1.1;simpa using this
  simp(disch:=omega) [-zAa,hx]
  repeat' (first|(refine BrKd.mk (fun h=>?_) (fun h=>?_)<;>simp(disch:=omega) [*])|(refine BrK.mk (fun h=>?_) (fun h=>?_)<;>simp(disch:=omega) [*]))
  all_goals first
   |(refine hN.out _<|Nx.mk (k+1) (by simp[*]) ⟨by omega,?_⟩ (by omega);simpa(disch:=omega) [*,decide_eq_true,decide_eq_false,hasS]using hi.out)
   |(first|simpa(disch:=omega) [*,decide_eq_true,decide_eq_false,hasS]using hi.out.symm|simpa(disch:=omega) [*,decide_eq_true,decide_eq_false,hasS]using hi.out)
def sign(b:UInt8):Bool:=32<=b.toNat&&b.toNat<=126
theorem rA(s:Str):Fn Tryz.prog BB [.str s] (.bool (s.all sign)):=by
 refine yoB Cb fun ho=>?_;simp only[oks,ok,and_true]at ho;simp(disch:=omega) [-zAa];generalize hr:s.all sign=r;refine au (fun k:Nat=>⟨[(0,.str s),(3,.int .i64 k)],[]⟩) (fun k=>k<=s.length/\(s.drop k).all sign=r) (fun k=>s.length-k) [] _ 0 rfl (by simp[*]) (by simp[*]) ?_
 rintro k ⟨hk,hi⟩ N hN;rcases place s k hk with⟨he,hd⟩|⟨hlt,x,hx,hd⟩<;>rw[hd]at hi<;>replace hi:=hid hi
 ·simp(disch:=omega) [-zAa,he]
  simpa using hi.out
 ·simp(disch:=omega) [-zAa,hx]
  repeat' (first|(refine BrKd.mk (fun h=>?_) (fun h=>?_)<;>simp(disch:=omega) [*])|(refine BrK.mk (fun h=>?_) (fun h=>?_)<;>simp(disch:=omega) [*]))
  all_goals first
   |(refine hN.out _<|Nx.mk (k+1) (by simp[*]) ⟨by omega,?_⟩ (by omega);simpa(disch:=omega) [*,decide_eq_true,decide_eq_false,sign]using hi.out)
   |(first|simpa(disch:=omega) [*,decide_eq_true,decide_eq_false,sign]using hi.out.symm|simpa(disch:=omega) [*,decide_eq_true,decide_eq_false,sign]using hi.out)
def scheme(s:Str):Bool:=s.all small&&(1<=s.length&&s.length<=16)
theorem pE(s:Str):Fn Tryz.prog zf [.str s] (.bool (scheme s)):=by
 refine yoB zI fun ho=>?_;simp only[oks,ok,and_true]at ho;simp(disch:=omega) [-zAa];generalize hr:scheme s=r;refine au (fun k:Nat=>⟨[(0,.str s),(3,.int .i64 k)],[]⟩) (fun k=>k<=s.length/\((s.drop k).all small&&(1<=s.length&&s.length<=16))=r) (fun k=>s.length-k) [] _ 0 rfl (by simp[*]) (by simp[*,<-hr,scheme]) ?_
 rintro k ⟨hk,hi⟩ N hN;rcases place s k hk with⟨he,hd⟩|⟨hlt,x,hx,hd⟩<;>rw[hd]at hi<;>replace hi:=hid hi
 ·simp(disch:=omega) [-zAa,he]
  repeat' (first|(refine BrKd.mk (fun h=>?_) (fun h=>?_)<;>simp(disch:=omega) [*])|(refine BrK.mk (fun h=>?_) (fun h=>?_)<;>simp(disch:=omega) [*]))
  all_goals (first|simpa(disch:=omega) [*,decide_eq_true,decide_eq_false,]using hi.out.symm|simpa(disch:=omega) [*,decide_eq_true,decide_eq_false,]using hi.out)
 ·simp(disch:=omega) [-zAa,hx]
  repeat' (first|(refine BrKd.mk (fun h=>?_) (fun h=>?_)<;>simp(disch:=omega) [*])|(refine BrK.mk (fun h=>?_) (fun h=>?_)<;>simp(disch:=omega) [*]))
  all_goals first
   |(refine hN.out _<|Nx.mk (k+1) (by simp[*]) ⟨by omega,?_⟩ (by omega);simpa(disch:=omega) [*,decide_eq_true,decide_eq_false,small]using hi.out)
   |(first|simpa(disch:=omega) [*,decide_eq_true,decide_eq_false,small]using hi.out.symm|simpa(disch:=omega) [*,decide_eq_true,decide_eq_false,small]using hi.out)
theorem c5{α:Type}{l:List α}{k:Nat}{x:α}(h:l[k]?=some x):l.take (k+1)=l.take k++[x]:=by rw[List.take_add_one,h];rfl
theorem take_drop{α:Type}{l:List α}{k j:Nat}{x:α}(h:l[j]?=some x)(hj:j<k):(l.take k).drop j=x::(l.take k).drop (j+1):=
 eE (by rw[zAf,if_pos hj,h])
def wordOK(sch:Bool)(x:Str):Bool:=if sch then scheme x else(x.all sign&&decide (x.length<=40))
def wordsGo(sch:Bool):List Str->List Str->Bool
 |_,[]=>true
 |pre,x::l=>wordOK sch x&&(!(hasS pre x)&&wordsGo sch (pre++[x]) l)
def words(l:List Str)(sch:Bool):Bool:=wordsGo sch [] l&&decide (l.length<=8)
theorem C5 (l:List Str) (sch:Bool):Fn Tryz.prog BA [.seq 1 (l.map .str),.bool sch] (.bool (words l sch)):=by
 refine yoB Ca fun ho=>?_
 simp only [oks,ok,and_true] at ho
 have hlen:l.length≤140737488355328:=by have:=ho.1; simpa using this
 simp (disch:=omega) [-zAa]
 generalize hr:words l sch=r
 refine au (fun k:Nat=>⟨[(0,.seq 1 (l.map .str)),(1,.bool sch),(5,.int .i64 k)],[]⟩) (fun k=>k≤l.length∧(wordsGo sch (l.take k) (l.drop k) && decide (l.length≤8))=r) (fun k=>l.length - k) [] _ 0 rfl (by simp [*]) (by simp [*,←hr,words]) ?_
 rintro k ⟨hk,hi⟩ N hN
 rcases place l k hk with ⟨he,hd⟩ | ⟨hlt,x,hx,hd⟩<;>rw [hd] at hi<;>replace hi:=hid hi
 · simp (disch:=omega) [-zAa,he]
   simpa [wordsGo] using hi.out
 · rcases Bool.eq_false_or_eq_true sch with hsch | hsch
   all_goals
    simp (disch:=omega) [-zAa,hx]
    repeat' (first | (refine BrKd.mk (fun h=>?_) (fun h=>?_)<;>simp (disch:=omega) [*]) | (refine BrK.mk (fun h=>?_) (fun h=>?_)<;>simp (disch:=omega) [*]) | (refine ah (pE _) rfl (fun _=>?_)<;>simp (disch:=omega) [*]) | (refine aI (pE _) rfl ?_<;>simp (disch:=omega) [*]) | (refine ah (rA _) rfl (fun _=>?_)<;>simp (disch:=omega) [*]) | (refine aI (rA _) rfl ?_<;>simp (disch:=omega) [*]))
    all_goals first
     | (first | simpa (disch:=omega) [*,decide_eq_true,decide_eq_false,wordOK,wordsGo] using hi.out.symm | simpa (disch:=omega) [*,decide_eq_true,decide_eq_false,wordOK,wordsGo] using hi.out)
     | (have hi:=hi.out; simp (disch:=omega) [wordOK,wordsGo, *,decide_eq_true,decide_eq_false] at hi; replace hi:=hid hi
        refine au (fun j:Nat=>⟨[(0,.seq 1 (l.map .str)),(1,.bool sch),(5,.int .i64 k),(8,.int .i64 j)],[]⟩) (fun j=>j≤k∧hasS (l.take k) x=hasS ((l.take k).drop j) x) (fun j=>k - j) [] _ 0 rfl (by simp [*]) (by simp) ?_
        rintro j ⟨hj,hi2⟩ N2 hN2
        by_cases hlt2:j < k
        · obtain ⟨y,hy⟩:=bq (l:=l) (k:=j) (by omega)
          rw [take_drop hy hlt2,hasS] at hi2; replace hi2:=hid hi2
          simp (disch:=omega) [*]
          repeat' (first | (refine BrKd.mk (fun h=>?_) (fun h=>?_)<;>simp (disch:=omega) [*]) | (refine BrK.mk (fun h=>?_) (fun h=>?_)<;>simp (disch:=omega) [*]))
          all_goals first
           | (refine hN2.out _<|Nx.mk (j + 1) (by simp [*]) ⟨by omega,?_⟩ (by omega); rw [hi2.out,if_neg h])
           | (have hi2:=hi2.out; rw [if_pos h] at hi2; have hi:=hi.out; simp [hi2] at hi; simp [hi])
        · have:(l.take k).drop j=[]:=by simp; omega
          rw [this,hasS] at hi2
          have hi:=hi.out; simp [hi2] at hi; replace hi:=hid hi
          simp (disch:=omega) [*]
          refine hN.out _<|Nx.mk (k + 1) (by simp [*]) ⟨by omega,?_⟩ (by omega)
          rw [c5 hx]; simpa [*] using hi.out)
def sumB:Str->Nat
 |[]=>0
 |b::s=>b.toNat+sumB s
def pool12:List Str:=[[97,42],[40,97,124,98,41,43],[91,48,45,57,93,43],[120,46,121],[91,94,97,93,42],[],[97,124,98,98,124,99]]
def pickW(sch:Bool):List Str->List Str->List Str
 |out,[]=>out
 |out,w::l=>pickW sch (if words (out++[w]) sch then out++[w]else out) l
def kind12(k:Int):Int:=1+(if k<0 then -(k+1)else k)%4
def good12(c:Constraint):Constraint:=
 let k:=kind12 c.kind
 if k=4 then⟨4,[],(pool12[sumB c.regex%7]?).getD []⟩
 else
  let ws:=if k=1 then[]else pickW (decide (k=3)) [] (c.words.take 4)
  ⟨k,if k=2/\ws=[]then[[120]]else ws,[]⟩
theorem kind12_range(k:Int):1<=kind12 k/\kind12 k<=4:=by
 unfold kind12;have h:0<=(if k<0 then -(k+1)else k):=by split<;>omega
 generalize(if k<0 then -(k+1)else k)=m at h
 omega
theorem pickW_len(sch:Bool):∀(l out:List Str),(pickW sch out l).length<=out.length+l.length
 |[],out=>by simp[pickW]
 |w::l,out=>by
   simp only[pickW];split
   ·have:=pickW_len sch l (out++[w]);simp at this⊢;omega
   ·have:=pickW_len sch l out;simp at this⊢;omega
theorem GJ(c:Constraint)(hR:c.regex.length<=1125899906842624):Fn Tryz.prog Fh [c.v] (good12 c).v:=by
 refine yoB FSk fun ho=>?_;simp only[oks,ok,and_true]at ho;obtain⟨kd,ws,rx⟩:=c;simp at ho hR;generalize hg:good12 ⟨kd,ws,rx⟩=g;have hrg:=kind12_range kd;have hgd:g=good12 ⟨kd,ws,rx⟩:=hg.symm;simp only[good12]at hgd;simp(disch:=omega) [-zAa];refine BrKd.mk (fun h=>?_) (fun h=>?_)
 all_goals
  first
   |(have e:1+ -(kd+1)%4=kind12 kd:=by rw[kind12,if_pos h])
   |(have e:1+kd%4=kind12 kd:=by rw[kind12,if_neg h])
  simp(disch:=omega) [-zAa];rw[e];clear e;generalize kind12 kd=q at *;refine BrKd.mk (fun hq=>?_) (fun hq=>?_)
  ·simp(disch:=omega) [-zAa]
   refine au (fun(p:Nat×Nat)=>⟨[(1,.ptr 0 0),(2,.ptr 1 0),(4,.ptr 2 0),(5,.seq 1 (pool12.map .str)),(6,.int .i64 p.2),(7,.int .i64 p.1)],
    [some (.box [.int .i64 kd,.seq 1 (ws.map .str),.str rx]),some (.box [.int .i64 0,.nil 1,.str []]),some (.box [.int .i64 q,.nil 1,.str []])]⟩)
    (fun p=>p.1<=rx.length/\p.2<=255*p.1/\p.2+sumB (rx.drop p.1)=sumB rx) (fun p=>rx.length-p.1) [] _ (0,0) rfl (by simp[pool12]) (by simp) ?_
   rintro⟨k,n⟩ ⟨hk,hn,hi⟩ N hN;simp only at hk hn hi;rcases place rx k hk with⟨he,hd⟩|⟨hlt,x,hx,hd⟩<;>rw[hd,sumB]at hi
   ·have hm:n%7<7:=zCh _ (by decide)
    have ht:((n:Int)%7).toNat=n%7:=by omega
    obtain⟨y,hy⟩:=bq (l:=pool12) (k:=n%7) hm;have hpl:pool12.length=7:=rfl;subst hq;rw[if_pos rfl]at hgd;simp only[zCj]at hi;simp(disch:=omega) [-zAa,he,hpl,ht,hy];rw[hi]at hy;simp[hgd,hy]
   ·have hx8:=x.toNat_lt
    simp(disch:=omega) [-zAa,hx];refine hN.out _<|Nx.mk (k+1,n+x.toNat) (by simp) ⟨by simp only;omega,by simp only;omega,by simp only;omega⟩ (by simp only;omega)
  ·rw[if_neg hq]at hgd
   generalize hw:(if q=1 then[]else pickW (decide (q=3)) [] (zAb 4 ws))=w at hgd
   have hl4:(zAb 4 ws).length=min 4 ws.length:=zAe;simp(disch:=omega) [-zAa]
   refine au (fun(p:Nat×List Str)=>⟨[(1,.ptr 0 0),(2,.ptr 1 0),(4,.ptr 2 0),(8,.int .i64 p.1)],
    [some (.box [.int .i64 kd,.seq 1 (ws.map .str),.str rx]),some (.box [.int .i64 0,.nil 1,.str []]),some (.box [.int .i64 q,.ref 3 p.2.length,.str []]),some (.arr aU 1 (p.2.map .str))]⟩)
    (fun p=>p.1<=(zAb 4 ws).length/\p.2.length<=p.1/\(if q=1 then p.2 else pickW (decide (q=3)) p.2 ((zAb 4 ws).drop p.1))=w) (fun p=>(zAb 4 ws).length-p.1) [.b 2 1 aU 1] _ (0,[]) rfl (by simp) (by simp[hw]) ?_
   rintro⟨k,out⟩ ⟨hk,hol,hi⟩ N hN;simp only at hk hol hi;by_cases hq1:q=1
   ·rw[if_pos hq1]at hi
    subst hi;simp(disch:=omega) [-zAa,hq1]
    repeat' (first|(refine BrKd.mk (fun h=>?_) (fun h=>?_)<;>simp(disch:=omega) [*])|(refine BrK.mk (fun h=>?_) (fun h=>?_)<;>simp(disch:=omega) [*]))
    all_goals first|omega|simp[hgd,hq1]
   ·rw[if_neg hq1]at hi
    rcases place (zAb 4 ws) k hk with⟨he,hd⟩|⟨hlt,x,hx,hd⟩<;>rw[hd,pickW]at hi
    ·subst hi
     clear hw;simp(disch:=omega) [-zAa]
     repeat' (first|(refine BrKd.mk (fun h=>?_) (fun h=>?_)<;>simp(disch:=omega) [*])|(refine BrK.mk (fun h=>?_) (fun h=>?_)<;>simp(disch:=omega) [*]))
     all_goals first|omega|(cases out<;>simp_all)|simp[*]
    ·have hx2:ws[k]?=some x:=by rw[zAf]at hx;simpa[show k<4 by omega]using hx
     replace hi:=hid hi;simp(disch:=omega) [-zAa,hx2,hq1];refine ah (by simpa using C5 (out++[x]) (decide (q=3))) rfl fun _=>?_
     simp(disch:=omega) [-zAa];refine BrK.mk (fun hb=>?_) (fun hb=>?_)
     ·simp(disch:=omega) [-zAa]
      refine hN.out _<|Nx.mk (k+1,out++[x]) (by simp) ⟨by simp only;omega,by simp;omega,?_⟩ (by simp only;omega)
      have hi:=hi.out;rw[if_pos hb]at hi;simpa[hq1]using hi
     ·simp(disch:=omega) [-zAa]
      refine hN.out _<|Nx.mk (k+1,out) (by simp) ⟨by simp only;omega,by simp only;omega,?_⟩ (by simp only;omega)
      have hi:=hi.out;rw[if_neg (by simp[hb])]at hi
      simpa[hq1]using hi
theorem Qv{P:Program}{d f vs us}{K:St->Prop}{σ:St}{r:V}(h:Fn P f us r)(hf:cI (jk r)=true)(k:ok (jk r)->K (σ.put d (jk r))):kB (Cn P) d f vs us K σ:=ah (Fn.jk h) hf k
theorem Sf{l:List V}{sz:Nat}:cI (if l=[]then V.seq sz l else V.junk)=true:=by split<;>simp[cI, *]
theorem Se{α:Type}{f:α->V}{l:List α}{sz:Nat}:cI (if l=[]then V.seq sz (l.map f)else V.junk)=true:=by split<;>simp[cI, *]
theorem El:∀{l:List Str},dB (l.map V.str)=true
 |[]=>rfl
 |_::l=>by simp[dB,cI,El (l:=l)]
attribute [simp] Sf Se El
def Hp(s:Str):Bool:=decide (s=[98,114])||(decide (s=[104,114])||(decide (s=[105,109,103])||(decide (s=[105,110,112,117,116])||decide (s=[119,98,114]))))
theorem GN(s:Str):Fn Tryz.prog Fj [.str s] (.bool (Hp s)):=by
 refine yoB FV fun ho=>?_;simp only[oks,ok,and_true]at ho;simp(disch:=omega) [-zAa,Hp]
 repeat' (first|(refine BrKd.mk (fun h=>?_) (fun h=>?_)<;>simp(disch:=omega) [*])|(refine BrK.mk (fun h=>?_) (fun h=>?_)<;>simp(disch:=omega) [*]))
def raw(s:Str):Bool:=decide (s=[115,99,114,105,112,116])||decide (s=[115,116,121,108,101])
theorem JI(s:Str):Fn Tryz.prog Is [.str s] (.bool (raw s)):=by
 refine yoB IV fun ho=>?_;simp only[oks,ok,and_true]at ho;simp(disch:=omega) [-zAa,raw]
 repeat' (first|(refine BrKd.mk (fun h=>?_) (fun h=>?_)<;>simp(disch:=omega) [*])|(refine BrK.mk (fun h=>?_) (fun h=>?_)<;>simp(disch:=omega) [*]))
def bp(o:Str):List Str:=
 if o=[112]then[[98,108,111,99,107,113,117,111,116,101],[100,105,118],[104,49],[104,50],[104,114],[108,105],[111,108],[112],[112,114,101],[116,97,98,108,101],[117,108]]
 else if o=[108,105]then[[108,105]]
 else if o=[100,116]\/o=[100,100]then[[100,100],[100,116]]
 else if o=[111,112,116,105,111,110]then[[111,112,116,105,111,110]]
 else if o=[116,100]then[[116,100],[116,114]]
 else if o=[116,114]then[[116,114]]
 else[]
def lz(o b:Str):Bool:=hasS (bp o) b
theorem Az(o b:Str):Fn Tryz.prog zg [.str o,.str b] (.bool (lz o b)):=by
 refine yoB zJ fun ho=>?_;simp only[oks,ok,and_true]at ho;simp(disch:=omega) [-zAa];generalize hr:lz o b=r;have hlen:(bp o).length<=11:=by unfold bp;repeat' (split<;>try simp)
 repeat' (first|(refine BrKd.mk (fun h=>?_) (fun h=>?_)<;>simp(disch:=omega) [*])|(refine BrK.mk (fun h=>?_) (fun h=>?_)<;>simp(disch:=omega) [*]))
 all_goals
  by_cases hc:bp o=[]
  ·refine au (fun k:Nat=>⟨[(1,.str b),(5,.nil 1),(6,.int .i64 0)],[]⟩) (fun k=>k=0) (fun k=>0-k) [] _ 0 rfl (by revert hc;simp[*,bp]) rfl ?_
   rintro k rfl N hN;simp[<-hr,lz,hc,hasS]
  refine au (fun k:Nat=>⟨[(1,.str b),(5,.seq 1 ((bp o).map .str)),(6,.int .i64 k)],[]⟩) (fun k=>k<=(bp o).length/\hasS ((bp o).drop k) b=r) (fun k=>(bp o).length-k) [] _ 0 rfl (by revert hc;simp[*,bp]) (by simp[<-hr,lz]) ?_
  clear hr hc;generalize bp o=l at *;rintro k ⟨hk,hi⟩ N hN;rcases place l k hk with⟨he,hd⟩|⟨hlt,x,hx,hd⟩<;>rw[hd]at hi<;>replace hi:=hid hi
  ·simp(disch:=omega) [-zAa,he]
   simpa[hasS]using hi.out
  ·simp(disch:=omega) [-zAa,hx]
   repeat' (first|(refine BrKd.mk (fun h=>?_) (fun h=>?_)<;>simp(disch:=omega) [*])|(refine BrK.mk (fun h=>?_) (fun h=>?_)<;>simp(disch:=omega) [*]))
   all_goals first
    |(refine hN.out _<|Nx.mk (k+1) (by simp[*]) ⟨by omega,?_⟩ (by omega);simpa(disch:=omega) [*,decide_eq_true,decide_eq_false,hasS]using hi.out)
    |(first|simpa(disch:=omega) [*,decide_eq_true,decide_eq_false,hasS]using hi.out.symm|simpa(disch:=omega) [*,decide_eq_true,decide_eq_false,hasS]using hi.out)
def DW:List Str->List Str->Bool
 |_,[]=>true
 |pre,x::l=>!hasS pre x&&DW (pre++[x]) l
def Ou(l:List Str):Bool:=DW [] l
theorem GG(l:List Str):Fn Tryz.prog Fd [.seq 1 (l.map .str)] (.bool (Ou l)):=by
 refine yoB FN fun ho=>?_;simp only[oks,ok,and_true]at ho;have hlen:l.length<=140737488355328:=by have:=ho.1;simpa using this
 simp(disch:=omega) [-zAa];generalize hr:Ou l=r;refine au (fun k:Nat=>⟨[(0,.seq 1 (l.map .str)),(3,.int .i64 k)],[]⟩) (fun k=>k<=l.length/\DW (l.take k) (l.drop k)=r) (fun k=>l.length-k) [] _ 0 rfl (by simp[*]) (by simp[*,<-hr,Ou]) ?_
 rintro k ⟨hk,hi⟩ N hN;rcases place l k hk with⟨he,hd⟩|⟨hlt,x,hx,hd⟩<;>rw[hd]at hi<;>replace hi:=hid hi
 ·simp(disch:=omega) [-zAa,he]
  simpa[DW]using hi.out
 ·simp(disch:=omega) [-zAa,hx]
  refine aI (by simpa[List.map_take]using kV (l.take k) x) rfl ?_
  simp(disch:=omega) [-zAa];refine BrK.mk (fun h=>?_) (fun h=>?_)
  ·simp(disch:=omega) [-zAa]
   have hi:=hi.out;simpa[DW,h]using hi
  ·simp(disch:=omega) [-zAa]
   refine hN.out _<|Nx.mk (k+1) (by simp[*]) ⟨by omega,?_⟩ (by omega)
   have hi:=hi.out;simp[DW,h]at hi;rw[c5 hx];exact hi
def kT:Str:=[35,116,101,120,116]
def dA:Str:=[35,99,111,109,109,101,110,116]
def rl(p:Policy)(par x:Str):Bool:=!(Hp par||(raw par&& !decide (x=kT)))&&((decide (x=kT)||decide (x=dA))||((aW p.elements x).isSome&& !lz par x))
def kids(p:Policy)(par:Str)(l:List Str):Bool:=l.all (rl p par)&&Ou l
theorem GH(p:Policy)(par:Str)(l:List Str):Fn Tryz.prog Fe [p.v,.str par,.seq 1 (l.map .str)] (.bool (kids p par l)):=by
 refine yoB FO fun ho=>?_;simp only[oks,ok,and_true]at ho;have hlen:l.length<=140737488355328:=by have:=ho.2.2.1;simpa using this
 simp(disch:=omega) [-zAa];refine ah (GN _) rfl fun _=>?_;simp(disch:=omega) [-zAa];refine ah (JI _) rfl fun _=>?_;simp(disch:=omega) [-zAa];generalize hr:kids p par l=r;refine au (fun k:Nat=>⟨[(1,.str par),(2,.seq 1 (l.map .str)),(3,.ptr 0 0),(7,.bool (Hp par)),(8,.bool (raw par)),(9,.int .i64 k)],[some (.box [.seq 1 (p.top.map .str),.seq 3 (p.elements.map Allowed.v),.seq 1 (p.unwrap.map .str)])]⟩) (fun k=>k<=l.length/\((l.drop k).all (rl p par)&&Ou l)=r) (fun k=>l.length-k) [] _ 0 rfl (by simp[*]) (by simp[*,<-hr,kids]) ?_
 rintro k ⟨hk,hi⟩ N hN;rcases place l k hk with⟨he,hd⟩|⟨hlt,x,hx,hd⟩<;>rw[hd]at hi<;>replace hi:=hid hi
 ·simp(disch:=omega) [-zAa,he]
  refine ah (GG _) rfl fun _=>?_;have hi:=hi.out;simp at hi;simp(disch:=omega) [-zAa,hi]
 ·simp only[zBf]at hi
  have hfin:rl p par x=false->r=false:=fun h=>by have hi:=hi.out;rw[h]at hi;simpa using hi.symm
  have hgo:rl p par x=true->((l.drop (k+1)).all (rl p par)&&Ou l)=r:=fun h=>by have hi:=hi.out;rw[h]at hi;simpa using hi
  replace hfin:=hid hfin;replace hgo:=hid hgo;simp(disch:=omega) [-zAa,hx]
  repeat' (first
   |(refine BrKd.mk (fun h=>?_) (fun h=>?_)<;>simp(disch:=omega) [*])
   |(refine BrK.mk (fun h=>?_) (fun h=>?_)<;>simp(disch:=omega) [*])
   |(refine aI (Fn.jk (uv p x)) (by simp) ?_<;>simp(disch:=omega) [*])
   |(refine ah (Az par x) rfl (fun _=>?_)<;>simp(disch:=omega) [*]))
  all_goals
   cases hf:aW p.elements x
   all_goals
    first
    |(exfalso;simp_all;done)
    |(refine hN.out _<|Nx.mk (k+1) (by simp[*]) ⟨by omega,hgo.out ?_⟩ (by omega);simp_all[rl,kT,dA];done)
    |(rw[hfin.out ?_];simp_all[rl,kT,dA];done)
    |(refine(hfin.out ?_).symm;simp_all[rl,kT,dA];done)
    |(refine(hfin.out ?_);simp_all[rl,kT,dA];done)
def rz(p:Policy)(par:Str):List Str->List Str->List Str
 |out,[]=>out
 |out,x::l=>rz p par (if kids p par (out++[x])then out++[x]else out) l
def gL(p:Policy)(par:Str)(l:List Str):List Str:=rz p par [] (l.take 8)
theorem vP(p:Policy)(par:Str):∀(l out:List Str),(rz p par out l).length<=out.length+l.length
 |[],out=>by simp[rz]
 |w::l,out=>by
   simp only[rz];split
   ·have:=vP p par l (out++[w]);simp at this⊢;omega
   ·have:=vP p par l out;simp at this⊢;omega
theorem wU(p:Policy)(par:Str)(l:List Str):(gL p par l).length<=8:=by
 have:=vP p par (l.take 8) [];simp at this;simp only[gL];omega
theorem nE(p:Policy)(par:Str)(l:List Str):FnN Tryz.prog xD [p.v,.str par,.seq 1 (l.map .str)] (.seq 1 ((gL p par l).map .str)):=by
 refine FnN.of_image mixed xM.1 xM.2 rfl fun ho=>?_;have hlen:l.length<=140737488355328:=by have:=ho.2.2.1.1;simpa using this
 simp(disch:=omega) [-zAa];generalize hw:gL p par l=w;have hl8:(zAb 8 l).length=min 8 l.length:=zAe
 refine au (fun(q:Nat×List Str)=>⟨[(1,.str par),(2,.seq 1 (l.map .str)),(3,.ptr 0 0),(7,.ref 1 q.2.length),(8,.int .i64 q.1)],
  [some (.box [.seq 1 (p.top.map .str),.seq 3 (p.elements.map Allowed.v),.seq 1 (p.unwrap.map .str)]),some (.arr aU 1 (q.2.map .str))]⟩)
  (fun q=>q.1<=(zAb 8 l).length/\q.2.length<=q.1/\rz p par q.2 ((zAb 8 l).drop q.1)=w) (fun q=>(zAb 8 l).length-q.1) [.r 7 aU 1] _ (0,[]) rfl (by simp) (by simp[<-hw,gL]) ?_
 rintro⟨k,out⟩ ⟨hk,hol,hi⟩ N hN;simp only at hk hol hi;rcases place (zAb 8 l) k hk with⟨he,hd⟩|⟨hlt,x,hx,hd⟩<;>rw[hd,rz]at hi
 ·subst hi
  simp(disch:=omega) [-zAa]
  repeat' (first|(refine BrKd.mk (fun h=>?_) (fun h=>?_)<;>simp(disch:=omega) [*])|(refine BrK.mk (fun h=>?_) (fun h=>?_)<;>simp(disch:=omega) [*]))
  all_goals first|omega|simp[*]
 ·have hx2:l[k]?=some x:=by rw[zAf]at hx;simpa[show k<8 by omega]using hx
  replace hi:=hid hi;simp(disch:=omega) [-zAa,hx2];refine ah (by simpa using GH p par (out++[x])) rfl fun _=>?_
  simp(disch:=omega) [-zAa];refine BrK.mk (fun hb=>?_) (fun hb=>?_)
  ·simp(disch:=omega) [-zAa]
   refine hN.out _<|Nx.mk (k+1,out++[x]) (by simp) ⟨by simp only;omega,by simp;omega,?_⟩ (by simp only;omega)
   have hi:=hi.out;rw[if_pos hb]at hi;simpa using hi
  ·simp(disch:=omega) [-zAa]
   refine hN.out _<|Nx.mk (k+1,out) (by simp) ⟨by simp only;omega,by simp only;omega,?_⟩ (by simp only;omega)
   have hi:=hi.out;rw[if_neg (by simp[hb])]at hi
   simpa using hi
end Go.Abs.F
end
section
namespace Go.Abs.F
open Go.Proofs
attribute [-simp] getElem?_pos zCe
def M4:List Str:=[[105,100],[104,114,101,102],[100,97,116,97,45,42]]
def ip(i:Nat)(r:Rule):Rule:=
 if plain (fx r.name).1 then⟨r.name,good12 r.value,!(fx r.name).2&&r.req⟩
 else⟨(M4[i]?).getD [],good12 r.value,!decide (i=2)&&r.req⟩
def gJ:Nat->List Rule->List Rule->List Rule
 |_,out,[]=>out
 |i,out,r::l=>gJ (i+1) (if hasS (out.map Rule.name) (ip i r).name then out else out++[ip i r]) l
def jn(l:List Rule):List Rule:=gJ 0 [] (l.take 3)
theorem ou:∀(l out:List Rule)(i:Nat),(gJ i out l).length<=out.length+l.length
 |[],out,i=>by simp[gJ]
 |w::l,out,i=>by
   simp only[gJ];split
   ·have:=ou l out (i+1);simp at this⊢;omega
   ·have:=ou l (out++[ip i w]) (i+1);simp at this⊢;omega
theorem HU(l:List Rule):(jn l).length<=3:=by
 have:=ou (l.take 3) [] 0;simp at this;simp only[jn];omega
theorem C4(l:List Rule)(hR:∀r∈l,r.value.regex.length<=1125899906842624):Fn Tryz.prog By [.seq 5 (l.map Rule.v)] (.seq 5 ((jn l).map Rule.v)):=by
 refine yoB B8 fun ho=>?_;simp only[oks,ok,and_true]at ho;have hlen:l.length<=140737488355328:=by have:=ho.1;simpa using this
 clear ho;simp(disch:=omega) [-zAa];generalize hw:jn l=w;have hl3:(zAb 3 l).length=min 3 l.length:=zAe
 refine au (fun(q:Nat×List Rule)=>⟨[(0,.seq 5 (l.map Rule.v)),(3,.ref 0 q.2.length),(4,.ref 1 q.2.length),(5,.int .i64 q.1)],
  [some (.arr dW 5 (q.2.map Rule.v)),some (.arr aU 1 ((q.2.map Rule.name).map .str))]⟩)
  (fun q=>q.1<=(zAb 3 l).length/\q.2.length<=q.1/\gJ q.1 q.2 ((zAb 3 l).drop q.1)=w) (fun q=>(zAb 3 l).length-q.1) [.r 3 dW 5,.r 4 aU 1] _ (0,[]) rfl (by simp) (by simp[<-hw,jn]) ?_
 rintro⟨k,out⟩ ⟨hk,hol,hi⟩ N hN;simp only at hk hol hi;rcases place (zAb 3 l) k hk with⟨he,hd⟩|⟨hlt,x,hx,hd⟩<;>rw[hd,gJ]at hi
 ·subst hi
  clear hw;simp(disch:=omega) [-zAa]
  repeat' (first|(refine BrKd.mk (fun h=>?_) (fun h=>?_)<;>simp(disch:=omega) [*])|(refine BrK.mk (fun h=>?_) (fun h=>?_)<;>simp(disch:=omega) [*]))
  all_goals first|omega|simp[*]
 ·have hx2:l[k]?=some x:=by rw[zAf]at hx;simpa[show k<3 by omega]using hx
  have hRx:=hR x (zAc hx2);replace hi:=hid hi;simp(disch:=omega) [-zAa,hx2];refine fh (GJ x.value hRx) (by simp) ?_
  simp(disch:=omega) [-zAa,hx2];refine ah (GF _) rfl fun _=>?_;simp(disch:=omega) [-zAa,hx2];refine ah (lu _) rfl fun _=>?_;have hk3:k<3:=by omega
  obtain⟨pn,hpn⟩:∃pn,M4[k]?=some pn:=bq (l:=M4) (k:=k) (by simpa[M4]using hk3)
  have hpn2:([.str [105,100],.str [104,114,101,102],.str [100,97,116,97,45,42]]:List V)[k]?=some (.str pn):=by
   have:(M4.map V.str)[k]?=some (.str pn):=by rw[zBg,hpn];rfl
   exact this
  have fin:∀g:Rule,ip k x=g->∀τ:St,τ.nrm [0,3,4,5]=⟨[(0,.seq 5 (l.map Rule.v)),(3,.ref 0 (if hasS (out.map Rule.name) g.name then out else out++[g]).length),(4,.ref 1 (if hasS (out.map Rule.name) g.name then out else out++[g]).length),(5,.int .i64 ((k+1:Nat):Int))],
   [some (.arr dW 5 ((if hasS (out.map Rule.name) g.name then out else out++[g]).map Rule.v)),some (.arr aU 1 (((if hasS (out.map Rule.name) g.name then out else out++[g]).map Rule.name).map .str))]⟩->N τ:=by
   intro g hg τ hτ;have hi:=hi.out;rw[hg]at hi;refine hN.out _<|Nx.mk (k+1,if hasS (out.map Rule.name) g.name then out else out++[g]) hτ ⟨by simp only;omega,?_,hi⟩ (by simp only;omega)
   split<;>simp<;>omega
  simp(disch:=omega) [-zAa,hx2];refine BrK.mk (fun hb=>?_) (fun hb=>?_)
  ·simp(disch:=omega) [-zAa,hx2]
   refine BrK.mk (fun hm=>?_) (fun hm=>?_)
   all_goals
    simp(disch:=omega) [-zAa,hm,hx2];refine ah (by simpa using kV (out.map Rule.name) x.name) rfl fun _=>?_
    simp(disch:=omega) [-zAa,hx2];refine BrK.mk (fun hh=>?_) (fun hh=>?_)
    all_goals
     simp(disch:=omega) [-zAa,hh,hx2];refine fin _ (by simp only[ip,hb,if_true,hm,Bool.not_true,Bool.not_false,Bool.true_and,Bool.false_and];rfl) _ ?_
     simp[hh]
  ·simp(disch:=omega) [-zAa,hpn2,hx2]
   have hb':ip k x=⟨pn,good12 x.value,!decide (k=2)&&x.req⟩:=by simp[ip,hb,hpn]
   refine BrKd.mk (fun hm=>?_) (fun hm=>?_)
   all_goals
    simp(disch:=omega) [-zAa,hm,hx2];refine ah (by simpa using kV (out.map Rule.name) pn) rfl fun _=>?_
    simp(disch:=omega) [-zAa,hx2];refine BrK.mk (fun hh=>?_) (fun hh=>?_)
    all_goals
     simp(disch:=omega) [-zAa,hh,hx2];refine fin _ hb' _ ?_;simp[hh,hm]
def M5:List Str:=[[97],[98],[112],[98,114],[115,116,121,108,101]]
def sW(i:Nat)(s:Str):Str:=if plain s then s else(M5[i]?).getD []
def kX:Nat->List Allowed->List Allowed->List Allowed
 |_,out,[]=>out
 |i,out,e::l=>kX (i+1) (if(aW out (sW i e.name)).isSome then out else out++[⟨sW i e.name,[],jn e.rules⟩]) l
theorem qB:∀(l out:List Allowed)(i:Nat),(kX i out l).length<=out.length+l.length
 |[],out,i=>by simp[kX]
 |w::l,out,i=>by
   simp only[kX];split
   ·have:=qB l out (i+1);simp at this⊢;omega
   ·have:=qB l (out++[⟨sW i w.name,[],jn w.rules⟩]) (i+1);simp at this⊢;omega
def eX(els:List Allowed)(k:Nat)(own:List Str):List Allowed:=
 match els[k]? with
 |some e=>els.set k ⟨e.name,gL ⟨[],els,[]⟩ e.name own,e.rules⟩
 |none=>els
def fd:Nat->List Allowed->List Allowed->List Allowed
 |_,els,[]=>els
 |k,els,e::l=>fd (k+1) (eX els k e.kids) l
theorem HL(els:List Allowed)(k:Nat)(own:List Str):(eX els k own).length=els.length:=by
 unfold eX;split<;>simp
def yC:List Str->List Str->List Str
 |out,[]=>out
 |out,x::l=>yC (if plain x&& !hasS out x then out++[x]else out) l
def bK(p:Policy):Policy:=
 let a:=kX 0 [] (p.elements.take 5)
 let b:=fd 0 a (p.elements.take a.length)
 ⟨gL ⟨[],b,[]⟩ [] p.top,b,yC [] (p.unwrap.take 4)⟩
theorem GI(p:Policy)(hR:∀e∈p.elements,∀r∈e.rules,r.value.regex.length<=1125899906842624):Fn Tryz.prog Ff [p.v] (bK p).v:=by
 refine yoB FP fun ho=>?_;simp only[oks,ok,and_true]at ho;have hlt:p.top.length<=140737488355328:=by have:=ho;simp at this;exact this.1.1
 have hle:p.elements.length<=140737488355328:=by have:=ho;simp at this;exact this.2.1.1
 have hlu:p.unwrap.length<=140737488355328:=by have:=ho;simp at this;exact this.2.2.1
 clear ho;simp(disch:=omega) [-zAa];generalize hg:bK p=g;have hgd:g=bK p:=hg.symm;simp only[bK]at hgd;have hl5:(zAb 5 p.elements).length=min 5 p.elements.length:=zAe;have hal:=qB (p.elements.take 5) [] 0;generalize ha:kX 0 [] (p.elements.take 5)=els at hgd hal
 refine au (fun(q:Nat×List Allowed)=>⟨[(1,.ptr 0 0),(2,.ptr 1 0),(3,.ptr 2 0),(4,.int .i64 q.1)],
  [some (.box [.seq 1 (p.top.map .str),.seq 3 (p.elements.map Allowed.v),.seq 1 (p.unwrap.map .str)]),some (.box [.nil 1,.nil 3,.nil 1]),some (.box [.nil 1,.ref 3 q.2.length,.nil 1]),some (.arr bR 3 (q.2.map Allowed.v))]⟩)
  (fun q=>q.1<=(zAb 5 p.elements).length/\q.2.length<=q.1/\kX q.1 q.2 ((zAb 5 p.elements).drop q.1)=els) (fun q=>(zAb 5 p.elements).length-q.1) [.b 2 1 bR 3] _ (0,[]) rfl (by simp) (by simp[<-ha]) ?_
 rintro⟨k,out⟩ ⟨hk,hol,hi⟩ N hN;simp only at hk hol hi;rcases place (zAb 5 p.elements) k hk with⟨he,hd⟩|⟨hlt,x,hx,hd⟩<;>rw[hd,kX]at hi
 ·subst hi
  have hol5:out.length<=p.elements.length/\out.length<=5:=by simp only[zBb]at hal;omega
  have hkk:(k<p.elements.length/\k=5)\/k=p.elements.length:=by omega
  clear hd hN hol hk he hal ha;generalize hb:fd 0 out (p.elements.take out.length)=bs at hgd;rcases hkk with hkk|hkk
  all_goals
   simp(disch:=omega) [-zAa,hkk]
   refine au (fun(q:Nat×List Allowed)=>⟨[(1,.ptr 0 0),(2,.ptr 1 0),(3,.ptr 2 0),(10,.int .i64 q.1)],
    [some (.box [.seq 1 (p.top.map .str),.seq 3 (p.elements.map Allowed.v),.seq 1 (p.unwrap.map .str)]),some (.box [.nil 1,.nil 3,.nil 1]),some (.box [.nil 1,.ref 3 q.2.length,.nil 1]),some (.arr bR 3 (q.2.map Allowed.v))]⟩)
    (fun q=>q.1<=(p.elements.take out.length).length/\q.2.length=out.length/\fd q.1 q.2 ((p.elements.take out.length).drop q.1)=bs) (fun q=>(p.elements.take out.length).length-q.1) [] _ (0,out) rfl (by simp) (by simp[<-hb]) ?_
   have hlo:(p.elements.take out.length).length=out.length:=by rw[zAe];omega
   rintro⟨k,els⟩ ⟨hk,hol,hi⟩ N hN;simp only at hk hol hi;rcases place (p.elements.take out.length) k hk with⟨he,hd⟩|⟨hlt,x,hx,hd⟩<;>rw[hd,fd]at hi
   ·subst hi
    simp(disch:=omega) [-zAa,he];refine Do (by simpa using nE ⟨[],els,[]⟩ [] p.top) fun hok=>?_
    simp(disch:=omega) [-zAa];generalize hu:yC [] (p.unwrap.take 4)=us at hgd;have hl4:(zAb 4 p.unwrap).length=min 4 p.unwrap.length:=zAe;clear hN
    refine au (fun(q:Nat×List Str)=>⟨[(1,.ptr 0 0),(2,.ptr 1 0),(3,.ptr 2 0),(12,.int .i64 q.1)],
     [some (.box [.seq 1 (p.top.map .str),.seq 3 (p.elements.map Allowed.v),.seq 1 (p.unwrap.map .str)]),some (.box [.nil 1,.nil 3,.nil 1]),some (.box [.seq 1 ((gL ⟨[],els,[]⟩ [] p.top).map .str),.ref 3 els.length,.ref 4 q.2.length]),some (.arr bR 3 (els.map Allowed.v)),some (.arr aU 1 (q.2.map .str))]⟩)
     (fun q=>q.1<=(zAb 4 p.unwrap).length/\q.2.length<=q.1/\yC q.2 ((zAb 4 p.unwrap).drop q.1)=us) (fun q=>(zAb 4 p.unwrap).length-q.1) [.b 2 2 aU 1] _ (0,[]) rfl (by simp) (by simp[<-hu]) ?_
    rintro⟨j,uw⟩ ⟨hj,hul,hi⟩ N hN;simp only at hj hul hi;rcases place (zAb 4 p.unwrap) j hj with⟨he2,hd2⟩|⟨hlt2,y,hy,hd2⟩<;>rw[hd2,yC]at hi
    ·subst hi
     have hjj:(j<p.unwrap.length/\j=4)\/j=p.unwrap.length:=by omega
     rcases hjj with hjj|hjj
     all_goals
      simp(disch:=omega) [-zAa,hjj];simp[hgd]
    ·have hy2:p.unwrap[j]?=some y:=by rw[zAf]at hy;simpa[show j<4 by omega]using hy
     replace hi:=hid hi;simp(disch:=omega) [-zAa,hy2];refine ah (lu _) rfl fun _=>?_;simp(disch:=omega) [-zAa,hy2];refine aI (by simpa using kV uw y) rfl ?_
     simp(disch:=omega) [-zAa,hy2];have yes:plain y=true->hasS uw y=false->yC (uw++[y]) ((zAb 4 p.unwrap).drop (j+1))=us:=fun h h'=>by have hi:=hi.out;simpa[h,h']using hi
     have no:(plain y&& !hasS uw y)=false->yC uw ((zAb 4 p.unwrap).drop (j+1))=us:=fun h=>by have hi:=hi.out;rw[if_neg (by simp[h])]at hi;exact hi
     replace yes:=hid yes;replace no:=hid no;refine BrK.mk (fun h1=>?_) (fun h1=>?_)
     ·simp(disch:=omega) [-zAa,h1]
      refine BrK.mk (fun h2=>?_) (fun h2=>?_)
      ·simp(disch:=omega) [-zAa,h1,h2]
       refine hN.out _<|Nx.mk (j+1,uw) (by simp) ⟨by simp only;omega,by simp only;omega,no.out (by simp[h2])⟩ (by simp only;omega)
      ·simp(disch:=omega) [-zAa,h1,h2,hy2]
       refine hN.out _<|Nx.mk (j+1,uw++[y]) (by simp) ⟨by simp only;omega,by simp;omega,yes.out h1 h2⟩ (by simp only;omega)
     ·simp(disch:=omega) [-zAa,h1]
      refine hN.out _<|Nx.mk (j+1,uw) (by simp) ⟨by simp only;omega,by simp only;omega,no.out (by simp[h1])⟩ (by simp only;omega)
   ·have hx2:p.elements[k]?=some x:=by rw[zAf]at hx;simpa[show k<out.length by omega]using hx
    obtain⟨e,hex⟩:=bq (l:=els) (k:=k) (by omega)
    replace hi:=hid hi;simp(disch:=omega) [-zAa,hx2,hex];refine Ku (by simpa using nE ⟨[],els,[]⟩ e.name x.kids) ?_
    simp(disch:=omega) [-zAa,hx2,hex];have hi:=hi.out;have hsk:eX els k x.kids=els.set k ⟨e.name,gL ⟨[],els,[]⟩ e.name x.kids,e.rules⟩:=by simp[eX,hex]
    rw[hsk]at hi;refine hN.out _<|Nx.mk (k+1,els.set k ⟨e.name,gL ⟨[],els,[]⟩ e.name x.kids,e.rules⟩) (by simp[zDa]) ⟨by simp only;omega,by simp;omega,hi⟩ (by simp only;omega)
 ·have hx2:p.elements[k]?=some x:=by rw[zAf]at hx;simpa[show k<5 by omega]using hx
  have hRx:=hR x (zAc hx2);obtain⟨pn,hpn⟩:∃pn,M5[k]?=some pn:=bq (l:=M5) (k:=k) (by simp only[M5,zAd,zBb];omega)
  have hpn2:([.str [97],.str [98],.str [112],.str [98,114],.str [115,116,121,108,101]]:List V)[k]?=some (.str pn):=by
   have:(M5.map V.str)[k]?=some (.str pn):=by rw[zBg,hpn];rfl
   exact this
  replace hi:=hid hi;simp(disch:=omega) [-zAa,hx2];refine ah (lu _) rfl fun _=>?_;simp(disch:=omega) [-zAa,hx2];refine BrK.mk (fun hb=>?_) (fun hb=>?_)
  all_goals
   first
    |(have hnm:sW k x.name=x.name:=by rw[sW,if_pos hb])
    |(have hnm:sW k x.name=pn:=by rw[sW,if_neg (by simp[hb]),hpn];rfl)
   have hi:=hi.out;rw[hnm]at hi;replace hi:=hid hi;simp(disch:=omega) [-zAa,hx2,hpn2];refine Qv (by simpa using uv ⟨[],out,[]⟩ _) (by simp) fun _=>?_
   simp(disch:=omega) [-zAa,hx2];refine BrK.mk (fun hf=>?_) (fun hf=>?_)
   ·simp(disch:=omega) [-zAa,hx2]
    have hi:=hi.out;rw[if_pos hf]at hi;refine hN.out _<|Nx.mk (k+1,out) (by simp) ⟨by simp only;omega,by simp only;omega,hi⟩ (by simp only;omega)
   ·simp(disch:=omega) [-zAa,hx2]
    have hi:=hi.out;rw[if_neg (by simp[hf])]at hi
    refine fh (C4 x.rules hRx) (by simp) ?_
    simp(disch:=omega) [-zAa,hx2];refine hN.out _<|Nx.mk (k+1,out++[⟨_,[],jn x.rules⟩]) (by simp) ⟨by simp only;omega,by simp;omega,hi⟩ (by simp only;omega)
def fdx{α:Type}(f:α->Bool):Nat->List α->Int
 |_,[]=>-1
 |k,x::l=>if f x then k else fdx f (k+1) l
theorem No{α:Type}(f:α->Bool):∀(l:List α)(k:Nat),decide (0<=fdx f k l)=l.any f
 |[],k=>by simp[fdx]
 |x::l,k=>by
   simp only[fdx,zCi];split
   ·rename_i h;simp[h]
   ·rename_i h;simp only[Bool.not_eq_true]at h;rw[No f l (k+1),h];rfl
theorem Kb(s:Str):∀l:List Str,l.any (fun x=>decide (s=x))=hasS l s
 |[]=>rfl
 |x::l=>by
   simp only[zCi,hasS,Kb s l];by_cases h:x=s
   ·simp[h]
   ·have:¬s=x:=fun e=>h e.symm
    simp[h,this]
theorem n4(l:List Str)(s:Str):Fn Tryz.prog dj [.seq 1 (l.map .str),.str s] (.int .i64 (fdx (fun x=>decide (s=x)) 0 l)):=by
 refine yoB dk fun ho=>?_;simp only[oks,ok,and_true]at ho;have hlen:l.length<=140737488355328:=by have:=ho.1.1;simpa using this
 clear ho;simp(disch:=omega) [-zAa];generalize hr:fdx (fun x=>decide (s=x)) 0 l=r;refine au (fun k:Nat=>⟨[(0,.seq 1 (l.map .str)),(1,.str s),(7,.int .i64 l.length),(8,.int .i64 k)],[]⟩) (fun k=>k<=l.length/\fdx (fun x=>decide (s=x)) k (l.drop k)=r) (fun k=>l.length-k) [] _ 0 rfl (by simp[*]) (by simp[*]) ?_
 rintro k ⟨hk,hi⟩ N hN;rcases place l k hk with⟨he,hd⟩|⟨hlt,x,hx,hd⟩<;>rw[hd]at hi<;>replace hi:=hid hi
 ·simp(disch:=omega) [-zAa,he]
  simpa[fdx]using hi.out
 ·simp(disch:=omega) [-zAa,hx]
  refine BrKd.mk (fun h=>?_) (fun h=>?_)
  ·simp(disch:=omega) [-zAa]
   have hi:=hi.out;simpa[fdx,h]using hi
  ·simp(disch:=omega) [-zAa]
   refine hN.out _<|Nx.mk (k+1) (by simp[*]) ⟨by omega,?_⟩ (by omega)
   have hi:=hi.out;simpa[fdx,h]using hi
theorem f_slices_Contains_string(l:List Str)(s:Str):Fn Tryz.prog cB [.seq 1 (l.map .str),.str s] (.bool (hasS l s)):=by
 refine yoB cE fun ho=>?_;simp only[oks,ok,and_true]at ho;simp(disch:=omega) [-zAa];refine ah (n4 _ _) rfl fun _=>?_;simp(disch:=omega) [-zAa];rw[No,Kb]
def kq(s p:Str):Bool:=decide (p.length<=s.length)&&decide (s.take p.length=p)
theorem fq(s p:Str):Fn Tryz.prog cC [.str s,.str p] (.bool (kq s p)):=by
 refine yoB cF fun ho=>?_;simp only[oks,ok,and_true]at ho;simp(disch:=omega) [-zAa,kq]
 repeat' (first|(refine BrKd.mk (fun h=>?_) (fun h=>?_)<;>simp(disch:=omega) [*])|(refine BrK.mk (fun h=>?_) (fun h=>?_)<;>simp(disch:=omega) [*]))
theorem jd(s p:Str):Fn Tryz.prog iZ [.str s,.str p] (.bool (kq s p)):=by
 refine yoB i5 fun ho=>?_;simp only[oks,ok,and_true]at ho;simp(disch:=omega) [-zAa]
 repeat' (first|(refine BrKd.mk (fun h=>?_) (fun h=>?_)<;>simp(disch:=omega) [*])|(refine BrK.mk (fun h=>?_) (fun h=>?_)<;>simp(disch:=omega) [*])|(refine ah (fq _ _) rfl (fun _=>?_)<;>simp(disch:=omega) [*])|(refine aI (fq _ _) rfl ?_<;>simp(disch:=omega) [*]))
theorem f_lang_isValue(s:Str):Fn Tryz.prog zl [.str s] (.bool (s.all sign)):=by
 refine yoB zQ fun ho=>?_;simp only[oks,ok,and_true]at ho;simp(disch:=omega) [-zAa];generalize hr:s.all sign=r;refine au (fun k:Nat=>⟨[(0,.str s),(3,.int .i64 k)],[]⟩) (fun k=>k<=s.length/\(s.drop k).all sign=r) (fun k=>s.length-k) [] _ 0 rfl (by simp[*]) (by simp[*]) ?_
 rintro k ⟨hk,hi⟩ N hN;rcases place s k hk with⟨he,hd⟩|⟨hlt,x,hx,hd⟩<;>rw[hd]at hi<;>replace hi:=hid hi
 ·simp(disch:=omega) [-zAa,he]
  simpa using hi.out
 ·simp(disch:=omega) [-zAa,hx]
  repeat' (first|(refine BrKd.mk (fun h=>?_) (fun h=>?_)<;>simp(disch:=omega) [*])|(refine BrK.mk (fun h=>?_) (fun h=>?_)<;>simp(disch:=omega) [*]))
  all_goals first
   |(refine hN.out _<|Nx.mk (k+1) (by simp[*]) ⟨by omega,?_⟩ (by omega);simpa(disch:=omega) [*,decide_eq_true,decide_eq_false,sign]using hi.out)
   |(first|simpa(disch:=omega) [*,decide_eq_true,decide_eq_false,sign]using hi.out.symm|simpa(disch:=omega) [*,decide_eq_true,decide_eq_false,sign]using hi.out)
theorem eC(c:UInt8):∀s:Str,Lib.indexByte s c<(s.length:Int)+1/\(0<=Lib.indexByte s c->Lib.indexByte s c<s.length)
 |[]=>by simp[Lib.indexByte]
 |b::l=>by
   have:=eC c l;unfold Lib.indexByte;simp only[zAd];split
   ·omega
   ·split
    ·omega
    ·omega
theorem f_bytealg_IndexByteString(s:Str)(c:UInt8):Fn Tryz.prog bm [.str s,.int .u8 c.toNat] (.int .i64 (Lib.indexByte s c)):=by
 refine Fn.ext Tryz.func174 (by kernel_rfl) (by kernel_rfl) (by kernel_rfl) (e:=Extern.BytealgIndexByte.indexByte) (by kernel_rfl) ?_
 intro M w cs hM hus;obtain⟨cl⟩:=cs;simp only[ae]at hus;obtain⟨_,_,rfl,⟨bs,rfl,rfl,_⟩,_,_,rfl,⟨rfl,_⟩,rfl⟩:=hus;refine⟨_,Lib.run_indexByteString bs (c.toNat:Int) w,?_⟩;have hc:((c.toNat:Int)).toNat.toUInt8=c:=by simp
 rw[hc];simp only[rep];have h1:=Lib.indexByte_ge bs.data.toList c;have h2:=eC c bs.data.toList;refine⟨trivial,?_,?_⟩
 ·simp;omega
 ·simp;omega
theorem fp(s:Str)(c:UInt8):Fn Tryz.prog bC [.str s,.int .u8 c.toNat] (.int .i64 (Lib.indexByte s c)):=by
 refine yoB bD fun ho=>?_;simp only[oks,ok,and_true]at ho;simp(disch:=omega) [-zAa]
 repeat' (first|(refine BrKd.mk (fun h=>?_) (fun h=>?_)<;>simp(disch:=omega) [*])|(refine BrK.mk (fun h=>?_) (fun h=>?_)<;>simp(disch:=omega) [*])|(refine ah (f_bytealg_IndexByteString _ _) rfl (fun _=>?_)<;>simp(disch:=omega) [*])|(refine aI (f_bytealg_IndexByteString _ _) rfl ?_<;>simp(disch:=omega) [*]))
theorem pB(s:Str)(c:UInt8):Fn Tryz.prog bj [.str s,.str [c]] (.int .i64 (Lib.indexByte s c)):=by
 refine yoB iL fun ho=>?_;simp only[oks,ok,and_true]at ho;simp(disch:=omega) [-zAa]
 repeat' (first|(refine BrKd.mk (fun h=>?_) (fun h=>?_)<;>simp(disch:=omega) [*])|(refine BrK.mk (fun h=>?_) (fun h=>?_)<;>simp(disch:=omega) [*])|(refine ah (fp _ _) rfl (fun _=>?_)<;>simp(disch:=omega) [*])|(refine aI (fp _ _) rfl ?_<;>simp(disch:=omega) [*]))
 all_goals (try (subst h;simp[Lib.indexByte]))
def cutB(s:Str)(c:UInt8):Str×Str×Bool:=if 0<=Lib.indexByte s c then(s.take (Lib.indexByte s c).toNat,s.drop ((Lib.indexByte s c).toNat+1),true)else(s,[],false)
theorem j2(s:Str)(c:UInt8):Fn Tryz.prog jR [.str s,.str [c]] (.tup [.str (cutB s c).1,.str (cutB s c).2.1,.bool (cutB s c).2.2]):=by
 refine yoB jW fun ho=>?_;simp only[oks,ok,and_true]at ho;have hb:=eC c s;have hg:=Lib.indexByte_ge s c;simp(disch:=omega) [-zAa];refine ah (pB _ _) rfl fun _=>?_;unfold cutB;generalize Lib.indexByte s c=n at *;simp(disch:=omega) [-zAa];refine BrKd.mk (fun h=>?_) (fun h=>?_)
 ·obtain⟨m,rfl⟩:=Int.eq_ofNat_of_zero_le h
  have hm:=hb.2 h;simp(disch:=omega) [-zAa];rw[zAi (by simp)]
 ·simp(disch:=omega) [-zAa,h]
theorem f_strings_Cut1(s:Str)(c:UInt8):Fn Tryz.prog Bt [.str s,.str [c]] (.tup [.str (cutB s c).1,.str (cutB s c).2.1,.bool (cutB s c).2.2]):=by
 refine yoB B1 fun ho=>?_;simp only[oks,ok,and_true]at ho;simp(disch:=omega) [-zAa]
 repeat' (first|(refine BrKd.mk (fun h=>?_) (fun h=>?_)<;>simp(disch:=omega) [*])|(refine BrK.mk (fun h=>?_) (fun h=>?_)<;>simp(disch:=omega) [*])|(refine ah (j2 _ _) rfl (fun _=>?_)<;>simp(disch:=omega) [*])|(refine aI (j2 _ _) rfl ?_<;>simp(disch:=omega) [*]))
def allowsL(c:Constraint)(v:Str):Bool:=
 v.all sign&&(decide (c.kind=1)||((decide (c.kind=2)&&hasS c.words v)||(decide (c.kind=3)&&(!(cutB v 58).2.2||hasS c.words (cutB v 58).1))))
structure Node where
 kind:Int
 name:Str
 attrs:List Attr
 text:Str
 kids:List Node
mutual
def Node.v:Node->V
 |⟨k,n,a,t,ks⟩=>.strct [.int .i64 k,.str n,.seq 2 (a.map Attr.v),.str t,.seq 5 (Node.vs ks)]
def Node.vs:List Node->List V
 |[]=>[]
 |n::l=>n.v::Node.vs l
end
theorem Node.vs_map:∀l:List Node,Node.vs l=l.map Node.v
 |[]=>by simp[Node.vs]
 |n::l=>by simp[Node.vs,Node.vs_map l]
theorem Node.v_eq(n:Node):n.v=.strct [.int .i64 n.kind,.str n.name,.seq 2 (n.attrs.map Attr.v),.str n.text,.seq 5 (n.kids.map Node.v)]:=by
 cases n;simp[Node.v,Node.vs_map]
attribute [simp] Node.v_eq
section
variable{p:List Node->Prop}(h0:p [])(h1:∀n l,p n.kids->p l->p (n::l))
include h0 h1
mutual
theorem ax:∀l,p l
 |[]=>h0
 |n::l=>h1 n l (K5 n) (ax l)
theorem K5:∀n:Node,p n.kids
 |⟨_,_,_,_,ks⟩=>ax ks
end
end
def Ng(p:Policy)(par:Str):List Str:=if par=[]then p.top else((aW p.elements par).getD .zero).kids
def fS(p:Policy)(par:Str)(n:Node):Bool:=
 if n.kind=2 then hasS (Ng p par) kT else if n.kind=3 then hasS (Ng p par) dA else decide (n.kind=1)&&hasS (Ng p par) n.name
def fits(pat nm:Str):Bool:=plain (fx pat).1&&(if(fx pat).2 then kq nm (fx pat).1 else decide (nm=(fx pat).1))
def lY:List Rule->Str->Option Rule
 |[],_=>none
 |r::l,s=>if fits r.name s then some r else lY l s
def Rule.zero:Rule:=⟨[],⟨0,[],[]⟩,false⟩
def Policy.few(p:Policy):Prop:=p.top.length<=1000000/\p.elements.length<=1000000/\∀e∈p.elements,e.kids.length<=1000000/\e.rules.length<=1000000
def wg(A:Constraint->Str->Bool)(e:Allowed)(a:Attr):Bool:=match lY e.rules a.name with
 |some r=>A r.value a.value
 |none=>false
theorem Er:∀{l:List Rule}{s:Str}{r:Rule},lY l s=some r->r∈l/\fits r.name s=true
 |[],s,r,h=>by simp[lY]at h
 |x::l,s,r,h=>by
   simp only[lY]at h;split at h
   ·cases h;exact⟨by simp,by assumption⟩
   ·obtain⟨h1,h2⟩:=Er h;exact⟨by simp[h1],h2⟩
def fR(A:Constraint->Str->Bool)(e:Allowed)(l:List Attr):List Attr:=l.filter (wg A e)
def iC:List Attr->Str->Option Str
 |[],_=>none
 |a::l,s=>if a.name=s then some a.value else iC l s
theorem C6(n:Node)(s:Str):Fn Tryz.prog BD [n.v,.str s] (.tup [.str ((iC n.attrs s).getD []),.bool (iC n.attrs s).isSome]):=by
 refine yoB Cd fun ho=>?_;simp only[oks,ok,and_true]at ho;have hlen:n.attrs.length<=140737488355328:=by have:=ho.1;simp at this;exact this.2.2.1.1
 clear ho;simp(disch:=omega) [-zAa];generalize hr:iC n.attrs s=r;refine au (fun k:Nat=>⟨[(1,.str s),(2,.ptr 0 0),(6,.int .i64 k)],[some (.box [.int .i64 n.kind,.str n.name,.seq 2 (n.attrs.map Attr.v),.str n.text,.seq 5 (n.kids.map Node.v)])]⟩) (fun k=>k<=n.attrs.length/\iC (n.attrs.drop k) s=r) (fun k=>n.attrs.length-k) [] _ 0 rfl (by simp[*]) (by simp[*]) ?_
 rintro k ⟨hk,hi⟩ N hN;rcases place n.attrs k hk with⟨he,hd⟩|⟨hlt,x,hx,hd⟩<;>rw[hd]at hi<;>replace hi:=hid hi
 ·simp(disch:=omega) [-zAa,he]
  simp[<-hi.out,iC]
 ·simp(disch:=omega) [-zAa,hx]
  refine BrKd.mk (fun h=>?_) (fun h=>?_)
  ·simp(disch:=omega) [-zAa,hx]
   have hi:=hi.out;simp[iC,h]at hi;subst hi;simp
  ·simp(disch:=omega) [-zAa]
   refine hN.out _<|Nx.mk (k+1) (by simp[*]) ⟨by omega,?_⟩ (by omega)
   have hi:=hi.out;simpa[iC,h]using hi
def whole(e:Allowed)(l:List Attr):Bool:=e.rules.all fun r=>!(r.req&& !(iC l r.name).isSome)
def wP(A:Constraint->Str->Bool)(e:Allowed)(l:List Attr):Bool:=decide ((fR A e l).length=l.length)&&whole e l
mutual
def Kf(f:Node->Prop):Node->Prop
 |⟨k,n,a,t,ks⟩=>f ⟨k,n,a,t,ks⟩/\an f ks
def an(f:Node->Prop):List Node->Prop
 |[]=>True
 |n::l=>Kf f n/\an f l
end
mutual
def j6:Node->Nat
 |⟨k,n,a,t,ks⟩=>1+aj ks
def aj:List Node->Nat
 |[]=>0
 |n::l=>j6 n+aj l
end
theorem ve(f:Node->Prop)(n:Node):Kf f n=(f n/\an f n.kids):=by cases n;simp[Kf]
theorem uM(n:Node):j6 n=1+aj n.kids:=by cases n;simp[j6]
theorem uK:∀{l:List Node}{n:Node},n∈l->aj n.kids+1<=aj l
 |[],n,h=>by cases h
 |x::l,n,h=>by
   simp only[aj,uM];rcases zBa.1 h with rfl|h
   ·omega
   ·have:=uK h;omega
theorem qH{f:Node->Prop}:∀{l:List Node}{n:Node},an f l->n∈l->f n/\an f n.kids
 |[],n,_,h=>by cases h
 |x::l,n,ha,h=>by
   simp only[an,ve]at ha;rcases zBa.1 h with rfl|h
   ·exact ha.1
   ·exact qH ha.2 h
def fineN(n:Node):Prop:=n.attrs.length<=1000000/\∀a∈n.attrs,a.value.length<=1000
theorem qA:∀{l:List Allowed}{s:Str}{r:Allowed},aW l s=some r->r∈l/\r.name=s
 |[],s,r,h=>by simp[aW]at h
 |x::l,s,r,h=>by
   simp only[aW]at h;split at h
   ·cases h;exact⟨by simp,by assumption⟩
   ·obtain⟨h1,h2⟩:=qA h;exact⟨by simp[h1],h2⟩
def bV(b:UInt8):V:=.int .u8 b.toNat
theorem Mq(s:Str):eU s=s.map bV:=we s
theorem SS(b:UInt8):bV b=.int .u8 b.toNat:=rfl
attribute [simp] Mq SS
def follows(b:UInt8):Bool:=decide (128<=b.toNat)&&decide (b.toNat<192)
theorem x0(b:UInt8):Fn Tryz.prog xE [.int .u8 b.toNat] (.bool (follows b)):=by
 refine yoB xN fun ho=>?_;simp only[oks,ok,and_true]at ho;simp(disch:=omega) [-zAa,follows]
 repeat' (first|(refine BrKd.mk (fun h=>?_) (fun h=>?_)<;>simp(disch:=omega) [*])|(refine BrK.mk (fun h=>?_) (fun h=>?_)<;>simp(disch:=omega) [*]))
def hdr(c:Nat):Nat×Nat×Nat:=
 if 192<=c/\c<224 then(2,c-192,128)else if 224<=c/\c<240 then(3,c-224,2048)else if 240<=c/\c<248 then(4,c-240,65536)else(0,0,0)
def goV:Str->Nat->Option Nat
 |[],v=>some v
 |b::l,v=>if follows b then goV l (64*v+b.toNat-128)else none
def yW(n least:Nat):Option Nat->Nat×Nat
 |none=>(65533,1)
 |some v=>if v<least\/1114111<v\/(55296<=v/\v<=57343)then(65533,1)else(v,n)
def one:Str->Nat×Nat
 |[]=>(65533,1)
 |b::t=>if b.toNat<128 then(b.toNat,1)
   else if(hdr b.toNat).1=0\/t.length+1<(hdr b.toNat).1 then(65533,1)
   else yW (hdr b.toNat).1 (hdr b.toNat).2.2 (goV (t.take ((hdr b.toNat).1-1)) (hdr b.toNat).2.1)
theorem Eg(c:Nat):(hdr c).1=0\/(2<=(hdr c).1/\(hdr c).1<=4/\(hdr c).2.1<64/\(hdr c).2.2<=65536):=by
 unfold hdr;split
 ·simp;omega
 ·split
  ·simp;omega
  ·split
   ·simp;omega
   ·simp
theorem gB(s:Str):1<=(one s).2/\(one s).2<=4/\(s≠[]->(one s).2<=s.length)/\(one s).1<=1114111/\¬(55296<=(one s).1/\(one s).1<=57343):=by
 cases s with
 |nil=>simp[one]
 |cons b t=>
   have hb:=b.toNat_lt;have hr:=Eg b.toNat;simp only[one];split
   ·simp;omega
   ·split
    ·simp
    ·rename_i h
     unfold yW;split
     ·simp
     ·split
      ·simp
      ·rename_i h2
       simp only[zAd];omega
theorem LJ{b:UInt8}(h:follows b=true):128<=b.toNat/\b.toNat<192:=by simpa[follows]using h
theorem JL(b:UInt8)(t:Str):Fn Tryz.prog Iv [.seq 1 ((b::t).map bV)] (.tup [.int .i32 (one (b::t)).1,.int .i64 (one (b::t)).2]):=by
 refine yoB IZ fun ho=>?_;simp only[oks,ok,and_true]at ho;have hlen:t.length<140737488355328:=by have:=ho.1;simp at this;omega
 clear ho;have hb:=b.toNat_lt;generalize hR:one (b::t)=R;have hR2:=hR;simp only[one]at hR2;simp(disch:=omega) [-zAa];have hr:=Eg b.toNat;refine BrKd.mk (fun h=>?_) (fun h=>?_)
 ·rw[if_pos h]at hR2
  simp(disch:=omega) [-zAa,<-hR2]
 ·rw[if_neg h]at hR2
  have hz:(hdr b.toNat).1=0->R=(65533,1):=fun h=>by rw[if_pos (.inl h)]at hR2;exact hR2.symm
  have hs:t.length+1<(hdr b.toNat).1->R=(65533,1):=fun h=>by rw[if_pos (.inr h)]at hR2;exact hR2.symm
  have hok:¬(hdr b.toNat).1=0->¬t.length+1<(hdr b.toNat).1->yW (hdr b.toNat).1 (hdr b.toNat).2.2 (goV (t.take ((hdr b.toNat).1-1)) (hdr b.toNat).2.1)=R:=fun h h'=>by rw[if_neg (by simp[h,h'])]at hR2;exact hR2
  clear hR2;replace hz:=hid hz;replace hs:=hid hs;replace hok:=hid hok;simp(disch:=omega) [-zAa]
  repeat' (first
   |(refine BrKd.mk (fun h=>?_) (fun h=>?_)<;>simp(disch:=omega) [*])
   |(refine BrK.mk (fun h=>?_) (fun h=>?_)<;>simp(disch:=omega) [*]))
  all_goals
   first
   |(have hq:hdr b.toNat=(2,b.toNat-192,128):=by unfold hdr;rw[if_pos (by omega)])
   |(have hq:hdr b.toNat=(3,b.toNat-224,2048):=by unfold hdr;rw[if_neg (by omega),if_pos (by omega)])
   |(have hq:hdr b.toNat=(4,b.toNat-240,65536):=by unfold hdr;rw[if_neg (by omega),if_neg (by omega),if_pos (by omega)])
   |(have hq:hdr b.toNat=(0,0,0):=by unfold hdr;rw[if_neg (by omega),if_neg (by omega),if_neg (by omega)])
   by_cases h0:(hdr b.toNat).1=0
   ·first
    |(have h0:=hz.out h0;simp[h0];done)
    |(exfalso;rw[hq]at h0;simp at h0;done)
   by_cases h1:t.length+1<(hdr b.toNat).1
   ·first
    |(have h0:=hs.out h1;simp[h0];done)
    |(exfalso;rw[hq]at h1;simp at h1;omega)
   first
   |(exfalso;rw[hq]at h0;exact h0 rfl)
   |(exfalso;rw[hq]at h1;simp only at h1;omega)
   |skip
  all_goals
   obtain⟨n,hn⟩:∃n:Nat,n=(hdr b.toNat).1:=⟨_,rfl⟩;obtain⟨v0,hv⟩:∃n:Nat,n=(hdr b.toNat).2.1:=⟨_,rfl⟩;obtain⟨le,hl⟩:∃n:Nat,n=(hdr b.toNat).2.2:=⟨_,rfl⟩;rw[<-hn,<-hv,<-hl]at hok hr;rw[hq]at hn hv hl;simp only at hn hv hl;have hok:=hok.out (by omega) (by omega)
   have htl:(t.take (n-1)).length=n-1:=by rw[zAe];omega
   refine au (fun(q:Nat×Nat)=>⟨[(0,.seq 1 ((b::t).map bV)),(5,.int .i64 n),(6,.int .i64 q.2),(7,.int .i64 le),(8,.int .i64 ((q.1:Int)+1))],[]⟩)
    (fun q=>q.1<=(t.take (n-1)).length/\yW n le (goV ((t.take (n-1)).drop q.1) q.2)=R/\((q.1=0/\q.2<64)\/(q.1=1/\q.2<4096)\/(q.1=2/\q.2<262144)\/(q.1=3/\q.2<16777216))) (fun q=>(t.take (n-1)).length-q.1) [] _ (0,v0) rfl (by simp[hn,hv,hl];omega) (by simp[hok];omega) ?_
   have hn24:2<=n/\n<=4/\le<=65536:=by omega
   clear hq hn hv hl;rintro⟨j,v⟩ ⟨hj,hi,hvb⟩ N hN;simp only at hj hi hvb;rcases place (t.take (n-1)) j hj with⟨he,hd⟩|⟨hlt,x,hx,hd⟩<;>rw[hd,goV]at hi
   ·simp only[yW]at hi
    have bad:(v<le\/1114111<v\/(55296<=v/\v<=57343))->R=(65533,1):=fun h=>by rw[if_pos h]at hi;exact hi.symm
    have good:¬(v<le\/1114111<v\/(55296<=v/\v<=57343))->R=(v,n):=fun h=>by rw[if_neg h]at hi;exact hi.symm
    clear hi;replace bad:=hid bad;replace good:=hid good;have hjn:j+1=n:=by omega
    have hjn2:¬((j:Int)+1<n):=by omega
    simp(disch:=omega) [-zAa,hjn2]
    repeat' (first
     |(refine BrKd.mk (fun h=>?_) (fun h=>?_)<;>simp(disch:=omega) [*])
     |(refine BrK.mk (fun h=>?_) (fun h=>?_)<;>simp(disch:=omega) [*]))
    all_goals first
     |(rw[bad.out (by omega)];simp;done)
     |(rw[good.out (by omega)];simp;done)
   ·have hx2:t[j]?=some x:=by rw[zAf]at hx;simpa[show j<n-1 by omega]using hx
    have hxb:=x.toNat_lt;have hjn2:(j:Int)+1<n:=by omega
    replace hi:=hid hi;simp(disch:=omega) [-zAa,hx2,hjn2];refine ah (x0 x) rfl fun _=>?_;simp(disch:=omega) [-zAa];refine BrK.mk (fun h=>?_) (fun h=>?_)
    ·have hf:=LJ h
     simp(disch:=omega) [-zAa,hx2];have hi:=hi.out;rw[if_pos h]at hi;refine hN.out _<|Nx.mk (j+1,64*v+x.toNat-128) (by simp;omega) ⟨by simp only;omega,hi,by simp only;omega⟩ (by simp only;omega)
    ·simp(disch:=omega) [-zAa]
     have hi:=hi.out;rw[if_neg (by simp[h])]at hi
     simp[<-hi,yW]
def gz:Nat->Str->List Nat
 |0,_=>[]
 |_,[]=>[]
 |f+1,b::t=>(one (b::t)).1::gz f ((b::t).drop (one (b::t)).2)
def dy(s:Str):List Nat:=gz s.length s
theorem KO:∀(f:Nat)(s:Str),s.length<=f->gz f s=dy s:=by
 have key:∀(n f g:Nat)(s:Str),s.length<=n->s.length<=f->s.length<=g->gz f s=gz g s:=by
  intro n
  induction n with
  |zero=>intro f g s h1 _ _;have:s=[]:=zAh (by omega);subst this;cases f<;>cases g<;>rfl
  |succ n ih=>
    intro f g s h1 h2 h3;cases s with
    |nil=>cases f<;>cases g<;>rfl
    |cons b t=>
      cases f with
      |zero=>simp at h2
      |succ f=>cases g with
        |zero=>simp at h3
        |succ g=>
          simp only[gz];have:=gB (b::t);simp only[zAd]at h1 h2 h3;rw[ih f g _ (by simp;omega) (by simp;omega) (by simp;omega)]
 intro f s h;exact key s.length f s.length s (zBd _) h (zBd _)
theorem gy(b:UInt8)(t:Str):dy (b::t)=(one (b::t)).1::dy ((b::t).drop (one (b::t)).2):=by
 have:=gB (b::t);rw[<-KO t.length ((b::t).drop (one (b::t)).2) (by simp;omega)]
 rfl
theorem DC:∀(n:Nat)(s:Str),s.length<=n->(dy s).length<=s.length:=by
 intro n
 induction n with
 |zero=>intro s h;have:s=[]:=zAh (by omega);subst this;simp[dy,gz]
 |succ n ih=>
   intro s h;cases s with
   |nil=>simp[dy,gz]
   |cons b t=>
     have h1:=gB (b::t);rw[gy];simp only[zAd]at h⊢;have:=ih ((b::t).drop (one (b::t)).2) (by simp;omega)
     simp at this;omega
theorem Oc:∀(n:Nat)(s:Str),s.length<=n->∀r∈dy s,r<=1114111/\¬(55296<=r/\r<=57343):=by
 intro n
 induction n with
 |zero=>intro s h r hr;have:s=[]:=zAh (by omega);subst this;simp[dy,gz]at hr
 |succ n ih=>
   intro s h r hr;cases s with
   |nil=>simp[dy,gz]at hr
   |cons b t=>
     have h1:=gB (b::t);rw[gy]at hr;simp only[zAd]at h;rcases zBa.1 hr with rfl|hr
     ·exact h1.2.2.2
     ·exact ih _ (by simp;omega) r hr
def rV(r:Nat):V:=.int .i32 r
theorem rV_eq(r:Nat):rV r=.int .i32 r:=rfl
attribute [simp] rV_eq
theorem C9(s:Str)(hs:s.length<=1000000):FnN Tryz.prog BH [.seq 1 (s.map bV)] (.seq 1 ((dy s).map rV)):=by
 refine FnN.of_image mixed Ch.1 Ch.2 rfl fun ho=>?_;clear ho;simp(disch:=omega) [-zAa];generalize hw:dy s=w
 refine au (fun(q:Nat×List Nat)=>⟨[(0,.seq 1 (s.map bV)),(3,.ref 0 q.2.length),(4,.int .i64 q.1)],[some (.arr lL 1 (q.2.map rV))]⟩)
  (fun q=>q.1<=s.length/\q.2.length<=q.1/\q.2++dy (s.drop q.1)=w) (fun q=>s.length-q.1) [.r 3 lL 1] _ (0,[]) rfl (by simp) (by simp[<-hw]) ?_
 rintro⟨k,out⟩ ⟨hk,hol,hi⟩ N hN;simp only at hk hol hi;have hfl:∀l:List Nat,dB (l.map rV)=true:=fun l=>by induction l<;>simp[dB,cI, *]
 rcases place s k hk with⟨he,hd⟩|⟨hlt,x,hx,hd⟩<;>rw[hd]at hi
 ·simp[dy,gz]at hi
  subst hi;simp(disch:=omega) [-zAa,he,hfl]
 ·have h1:=gB (x::s.drop (k+1))
  rw[gy]at hi;have hd2:(x::s.drop (k+1)).drop (one (x::s.drop (k+1))).2=s.drop (k+(one (x::s.drop (k+1))).2):=by rw[<-hd,List.drop_drop]
  rw[hd2]at hi;have hle:=h1.2.2.1 (by simp)
  simp only[zAd,List.length_drop]at hle;replace hi:=hid hi
  have hsl:vn (s.map bV) k s.length=some ((x::s.drop (k+1)).map bV):=by
   simp only[vn];rw[if_pos (by simp;omega),<-hd]
   simp;rw[zAi (by simp)]
  simp(disch:=omega) [hsl,-zAg,-vn];refine ah (JL x (s.drop (k+1))) rfl fun _=>?_;generalize one (x::s.drop (k+1))=o at *;simp(disch:=omega) [-zAa];refine hN.out _<|Nx.mk (k+o.2,out++[o.1]) (by simp) ⟨by simp only;omega,by simp;omega,by simpa using hi.out⟩ (by simp only;omega)
def b8(n:Nat):UInt8:=UInt8.ofNat n
theorem A7{n:Nat}(h:n<256):(b8 n).toNat=n:=by simp[b8,UInt8.toNat_ofNat,Nat.mod_eq_of_lt h]
def ge(r:Nat):Str:=
 let v:=if 1114111<r\/(55296<=r/\r<=57343)then 65533 else r
 if v<128 then[b8 v]
 else if v<2048 then[b8 (192+v/64),b8 (128+v%64)]
 else if v<65536 then[b8 (224+v/4096),b8 (128+v/64%64),b8 (128+v%64)]
 else[b8 (240+v/262144),b8 (128+v/4096%64),b8 (128+v/64%64),b8 (128+v%64)]
theorem A5(r:Nat):(ge r).length<=4:=by
 unfold ge;simp only
 repeat' split
 all_goals simp
theorem C8(r:Nat)(h:r<=1114111):Fn Tryz.prog BG [.int .i32 r] (.seq 1 ((ge r).map bV)):=by
 refine yoA Cg ?_;generalize hR:ge r=R;unfold ge at hR;simp only at hR;by_cases hb:1114111<r\/(55296<=r/\r<=57343)
 ·rw[if_pos hb]at hR
  simp(disch:=omega) [-zAa]
  repeat' (first
   |(refine BrKd.mk (fun h=>?_) (fun h=>?_)<;>simp(disch:=omega) [*])
   |(refine BrK.mk (fun h=>?_) (fun h=>?_)<;>simp(disch:=omega) [*]))
  all_goals first|omega|(subst hR;rfl)
 ·rw[if_neg hb]at hR
  simp(disch:=omega) [-zAa]
  repeat' (first
   |(refine BrKd.mk (fun h=>?_) (fun h=>?_)<;>simp(disch:=omega) [*])
   |(refine BrK.mk (fun h=>?_) (fun h=>?_)<;>simp(disch:=omega) [*]))
  all_goals (subst hR;simp(disch:=omega) [A7])
def kC(l:List Nat):Str:=(l.map ge).flatten
theorem Dw:∀l:List Nat,(kC l).length<=4*l.length
 |[]=>by simp[kC]
 |r::l=>by
   have h1:=A5 r;have h2:=Dw l;simp only[kC,zAg,zCf,zAj,zAd]at *;omega
theorem tL:∀s:Str,ce (s.map bV)=some s
 |[]=>rfl
 |b::s=>by
   have:=tL s;simp only[zAg,SS,ce,this,Option.map_some,zDb,zDc,and_true];simp
attribute [simp] tL
theorem GP(l:List Nat)(hl:l.length<=1000000)(hr:∀r∈l,r<=1114111):Fn Tryz.prog Fl [.seq 1 (l.map rV)] (.str (kC l)):=by
 refine yoA FX ?_;simp(disch:=omega) [-zAa];generalize hw:kC l=w
 refine au (fun(q:Nat×Str)=>⟨[(0,.seq 1 (l.map rV)),(3,.ref 0 q.2.length),(4,.int .i64 q.1)],[some (.arr tl 1 (q.2.map bV))]⟩)
  (fun q=>q.1<=l.length/\q.2.length<=4*q.1/\q.2++kC (l.drop q.1)=w) (fun q=>l.length-q.1) [.r 3 tl 1] _ (0,[]) rfl (by simp) (by simp[<-hw]) ?_
 rintro⟨k,out⟩ ⟨hk,hol,hi⟩ N hN;simp only at hk hol hi;rcases place l k hk with⟨he,hd⟩|⟨hlt,x,hx,hd⟩<;>rw[hd]at hi
 ·simp[kC]at hi
  subst hi;simp(disch:=omega) [he,-SS]
 ·simp only[kC,zAg,zCf]at hi
  have hxl:=A5 x;replace hi:=hid hi;simp(disch:=omega) [-zAa,hx];refine ay (C8 x (hr x (zAc hx))) (by simp) fun _=>?_
  simp(disch:=omega) [-zAa];refine hN.out _<|Nx.mk (k+1,out++ge x) (by simp) ⟨by simp only;omega,by simp;omega,by simpa[kC]using hi.out⟩ (by simp only;omega)
def lm:Option Nat->List Nat->List Nat
 |_,[]=>[]
 |p,r::l=>(if r=10/\p=some 13 then[]else[if r=13 then 10 else if r=0 then 65533 else r])++lm (some r) l
theorem JD:∀(l:List Nat)(p:Option Nat),(lm p l).length<=l.length
 |[],p=>by simp[lm]
 |r::l,p=>by
   have:=JD l (some r);simp only[lm,zAj,zAd];split<;>simp<;>omega
theorem JC:∀(l:List Nat)(p:Option Nat),(∀r∈l,r<=1114111)->∀r∈lm p l,r<=1114111
 |[],p,_,r,hr=>by simp[lm]at hr
 |x::l,p,h,r,hr=>by
   simp only[lm,zBc]at hr;rcases hr with hr|hr
   ·have:=h x (by simp)
    split at hr
    ·cases hr
    ·simp at hr;subst hr;split<;>(try split)<;>omega
   ·exact JC l _ (fun y hy=>h y (by simp[hy])) r hr
def dN(s:Str):Str:=kC (lm none (dy s))
def ng(l:List Nat)(k:Nat):Option Nat:=if k=0 then none else l[k-1]?
theorem ly(s:Str)(hs:s.length<=1000000):Fn Tryz.prog BI [.seq 1 (s.map bV)] (.str (dN s)):=by
 refine yoA Ci ?_;have hrl:=DC s.length s (zBd _);have hrm:=Oc s.length s (zBd _);simp(disch:=omega) [-zAa];refine Do (C9 s hs) fun _=>?_;unfold dN;generalize dy s=l at *;simp(disch:=omega) [-zAa];generalize hw:lm none l=w;have hwm:=JC l none (fun r hr=>(hrm r hr).1);rw[hw]at hwm
 refine au (fun(q:Nat×List Nat)=>⟨[(3,.seq 1 (l.map rV)),(4,.ref 0 q.2.length),(5,.int .i64 q.1)],[some (.arr lL 1 (q.2.map rV))]⟩)
  (fun q=>q.1<=l.length/\q.2.length<=q.1/\q.2++lm (ng l q.1) (l.drop q.1)=w) (fun q=>l.length-q.1) [.r 4 lL 1] _ (0,[]) rfl (by simp) (by simp[<-hw,ng]) ?_
 rintro⟨k,out⟩ ⟨hk,hol,hi⟩ N hN;simp only at hk hol hi;rcases place l k hk with⟨he,hd⟩|⟨hlt,x,hx,hd⟩<;>rw[hd]at hi
 ·simp[lm]at hi
  subst hi;simp(disch:=omega) [-zAa,he];refine ah (GP out (by omega) hwm) rfl fun _=>?_
  simp(disch:=omega) [-zAa]
 ·have hp1:ng l (k+1)=some x:=by simp[ng,hx]
  simp only[lm,<-hp1]at hi;have skip:(x=10/\ng l k=some 13)->out++lm (ng l (k+1)) (l.drop (k+1))=w:=fun h=>by rw[if_pos h]at hi;simpa using hi
  have put:¬(x=10/\ng l k=some 13)->(out++[if x=13 then 10 else if x=0 then 65533 else x])++lm (ng l (k+1)) (l.drop (k+1))=w:=fun h=>by rw[if_neg h]at hi;simpa using hi
  clear hi;replace skip:=hid skip
  replace put:=hid put;have hxr:=(hrm x (zAc hx)).1
  have fin:∀τ:St,∀o2:List Nat,τ.nrm [3,4,5]=⟨[(3,.seq 1 (l.map rV)),(4,.ref 0 o2.length),(5,.int .i64 ((k+1:Nat):Int))],[some (.arr lL 1 (o2.map rV))]⟩->o2.length<=k+1->o2++lm (ng l (k+1)) (l.drop (k+1))=w->N τ:=by
   intro τ o2 h1 h2 h3;exact hN.out _<|Nx.mk (k+1,o2) h1 ⟨by simp only;omega,h2,h3⟩ (by simp only;omega)
  by_cases h10:x=10
  ·subst h10
   rcases zBe k with hk0|hk0
   ·subst hk0
    simp(disch:=omega) [-zAa,hx];exact fin _ (out++[10]) (by simp) (by simp only[zAj,zAd,zBb];omega) (by simpa using put.out (by simp[ng]))
   ·obtain⟨y,hy⟩:=bq (l:=l) (k:=k-1) (by omega)
    have hkt:((k:Int)-1).toNat=k-1:=by omega
    simp(disch:=omega) [-zAa,hx,hy,hkt];refine BrKd.mk (fun h=>?_) (fun h=>?_)
    ·simp(disch:=omega) [-zAa,hx]
     exact fin _ out (by simp) (by omega) (skip.out ⟨rfl,by simp[ng,hy];omega⟩)
    ·simp(disch:=omega) [-zAa,hx]
     exact fin _ (out++[10]) (by simp) (by simp;omega) (by simpa using put.out (by simp[ng,hy];omega))
  ·by_cases h13:x=13
   ·subst h13
    simp(disch:=omega) [-zAa,hx];exact fin _ (out++[10]) (by simp) (by simp;omega) (by simpa using put.out (by simp))
   ·by_cases h0:x=0
    ·subst h0
     simp(disch:=omega) [-zAa,hx];exact fin _ (out++[65533]) (by simp) (by simp;omega) (by simpa using put.out (by simp))
    ·simp(disch:=omega) [-zAa,hx,h10,h13,h0]
     exact fin _ (out++[x]) (by simp) (by simp;omega) (by simpa[h13,h0]using put.out (by simp[h10]))
theorem LS(s:Str)(hs:s.length<=1000000):Fn Tryz.prog Lb [.str s] (.bool (decide (dN s=s))):=by
 refine yoB Ls fun ho=>?_;simp only[oks,ok,and_true]at ho;simp(disch:=omega) [-zAa];refine ah (by simpa using ly s hs) rfl fun _=>?_
 simp(disch:=omega) [-zAa]
def qZ(s:Str):Str:=s.take 30
theorem kW(s:Str):Fn Tryz.prog Ir [.str s] (.str (qZ s)):=by
 refine yoB IU fun ho=>?_;simp only[oks,ok,and_true]at ho;simp(disch:=omega) [-zAa,qZ];refine BrKd.mk (fun h=>?_) (fun h=>?_)
 ·simp(disch:=omega) [-zAa,h]
 ·simp(disch:=omega) [-zAa,h]
  rw[zAi (by omega)]
def O9(a:Attr):Attr:=⟨qZ a.name,qZ a.value⟩
mutual
def Sx:Node->Nat->List Node×Nat
 |⟨_,_,_,_,ks⟩,m=>dv ks m
def dv:List Node->Nat->List Node×Nat
 |[],m=>([],m)
 |n::l,m=>if m=0 then([],0)else
   (⟨n.kind,qZ n.name,(n.attrs.take 5).map O9,qZ n.text,(Sx n (m-1)).1⟩::(dv l (Sx n (m-1)).2).1,(dv l (Sx n (m-1)).2).2)
end
theorem yo(n:Node)(m:Nat):Sx n m=dv n.kids m:=by cases n;simp[Sx]
theorem uJ:∀(l:List Node)(m:Nat),aj (dv l m).1+(dv l m).2<=m:=by
 refine ax (fun m=>by simp[dv,aj]) ?_
 intro n l h1 h2 m;simp only[dv,yo];split
 ·simp[aj]
 ·have g1:=h1 (m-1)
  have g2:=h2 (dv n.kids (m-1)).2;simp only[aj,j6];omega
theorem dS:∀l:List Node,l.length<=aj l
 |[]=>by simp[aj]
 |n::l=>by have:=dS l;simp[aj,uM];omega
theorem JK:∀(l:List Node)(m:Nat),m<=1000->Fn Tryz.prog kN [.seq 5 (l.map Node.v),.int .i64 m] (.tup [.seq 5 ((dv l m).1.map Node.v),.int .i64 (dv l m).2]):=by
 have key:∀l:List Node,(∀n∈l,∀m:Nat,m<=1000->Fn Tryz.prog kN [.seq 5 (n.kids.map Node.v),.int .i64 m] (.tup [.seq 5 ((dv n.kids m).1.map Node.v),.int .i64 (dv n.kids m).2]))->
  ∀m:Nat,m<=1000->Fn Tryz.prog kN [.seq 5 (l.map Node.v),.int .i64 m] (.tup [.seq 5 ((dv l m).1.map Node.v),.int .i64 (dv l m).2]):=by
  intro l hrec m hm;refine yoB IX fun ho=>?_;simp only[oks,ok,and_true]at ho;have hlen:l.length<=140737488355328:=by have:=ho.1;simp at this;exact this.1
  clear ho;simp(disch:=omega) [-zAa];generalize hR:dv l m=R
  refine au (fun(q:Nat×Nat×List Node)=>⟨[(0,.seq 5 (l.map Node.v)),(1,.int .i64 q.2.1),(6,.ref 0 q.2.2.length),(7,.int .i64 q.1)],[some (.arr aG 5 (q.2.2.map Node.v))]⟩)
   (fun q=>q.1<=l.length/\q.2.2.length+q.2.1<=1000/\(q.2.2++(dv (l.drop q.1) q.2.1).1,(dv (l.drop q.1) q.2.1).2)=R) (fun q=>l.length-q.1) [.r 6 aG 5] _ (0,m,[]) rfl (by simp) (by simp[hR];omega) ?_
  rintro⟨k,m,out⟩ ⟨hk,hol,hi⟩ N hN;simp only at hk hol hi;rcases place l k hk with⟨he,hd⟩|⟨hlt,x,hx,hd⟩<;>rw[hd]at hi
  ·simp[dv]at hi
   subst hi;simp(disch:=omega) [-zAa,he]
  ·simp only[dv,yo]at hi
   rcases zBe m with hm0|hm0
   ·subst hm0
    simp at hi;subst hi;simp(disch:=omega) [-zAa]
   ·rw[if_neg (by omega)]at hi
    have hxc:=uJ x.kids (m-1);replace hi:=hid hi;simp(disch:=omega) [-zAa,hx];refine ah (kW _) rfl fun _=>?_;simp(disch:=omega) [-zAa];refine ah (kW _) rfl fun _=>?_;simp(disch:=omega) [-zAa];have hm1:((m:Int)-1)=((m-1:Nat):Int):=by omega
    rw[hm1];refine ay (hrec x (zAc hx) (m-1) (by omega)) (by simp) fun _=>?_
    generalize dv x.kids (m-1)=ck at *;simp(disch:=omega) [-zAa];have hl5:(zAb 5 x.attrs).length=min 5 x.attrs.length:=zAe
    refine au (fun(q:Nat)=>⟨[(0,.seq 5 (l.map Node.v)),(1,.int .i64 ck.2),(6,.ref 0 out.length),(7,.int .i64 k),(8,.ptr 1 0),(9,.ref 2 ((x.attrs.take 5).take q).length),(10,.int .i64 q)],
     [some (.arr aG 5 (out.map Node.v)),some (.box [.int .i64 x.kind,.str (qZ x.name),.seq 2 (x.attrs.map Attr.v),.str (qZ x.text),.seq 5 (ck.1.map Node.v)]),some (.arr b7 2 ((((x.attrs.take 5).take q).map O9).map Attr.v))]⟩)
     (fun q=>q<=(x.attrs.take 5).length) (fun q=>(x.attrs.take 5).length-q) [.r 9 b7 2] _ 0 rfl (by simp) (by simp) ?_
    rintro j hj N2 hN2;have hjl:((x.attrs.take 5).take j).length=j:=by rw[zAe];omega
    rcases place (x.attrs.take 5) j hj with⟨he2,hd2⟩|⟨hlt2,y,hy,hd2⟩
    ·have htk:(x.attrs.take 5).take j=x.attrs.take 5:=zAi (by omega)
     rw[htk]at hjl⊢;have hjj:(j<x.attrs.length/\j=5)\/j=x.attrs.length:=by omega
     rcases hjj with hjj|hjj
     all_goals
      simp(disch:=omega) [-zAa,hjj,hjl];refine hN.out _<|Nx.mk (k+1,ck.2,out++[⟨x.kind,qZ x.name,(x.attrs.take 5).map O9,qZ x.text,ck.1⟩]) (by simp) ⟨by simp only;omega,by simp;omega,by simpa using hi.out⟩ (by simp only;omega)
    ·have hy2:x.attrs[j]?=some y:=by rw[zAf]at hy;simpa[show j<5 by omega]using hy
     rw[hjl];simp(disch:=omega) [-zAa,hy2,hjl];refine aI (kW _) rfl ?_;simp(disch:=omega) [-zAa,hy2,hjl];refine aI (kW _) rfl ?_;simp(disch:=omega) [-zAa,hy2,hjl];refine hN2.out _<|Nx.mk (j+1) ?_ (by omega) (by omega)
     have hjl2:((x.attrs.take 5).take (j+1)).length=j+1:=by rw[zAe];omega
     rw[hjl2,c5 hy];simp[O9]
 have all:∀l:List Node,∀n∈l,∀m:Nat,m<=1000->Fn Tryz.prog kN [.seq 5 (n.kids.map Node.v),.int .i64 m] (.tup [.seq 5 ((dv n.kids m).1.map Node.v),.int .i64 (dv n.kids m).2]):=by
  refine ax (fun x hx=>by cases hx) ?_
  intro n l h1 h2 x hx;rcases zBa.1 hx with rfl|hx
  ·exact key _ h1
  ·exact h2 x hx
 exact fun l=>key l (all l)
theorem JJ(l:List Node):Fn Tryz.prog It [.seq 5 (l.map Node.v)] (.seq 5 ((dv l 40).1.map Node.v)):=by
 refine yoA IW ?_;simp(disch:=omega) [-zAa];refine ay (JK l 40 (by omega)) (by simp) fun _=>?_
 simp(disch:=omega) [-zAa]
def M6:List Str:=[[97],[98],[112],[117,108],[108,105],[98,114],[105,109,103],[100,105,118],[115,99,114,105,112,116],[120,45,121]]
def yy(s:Str):Str:=if named s then s else(M6[sumB s%10]?).getD []
theorem GK(s:Str)(hs:s.length<=1000000):Fn Tryz.prog Fi [.str s] (.str (yy s)):=by
 refine yoA FT ?_;simp(disch:=omega) [-zAa]
 refine au (fun(p:Nat×Nat)=>⟨[(0,.str s),(3,.seq 1 (M6.map .str)),(4,.int .i64 p.2),(5,.int .i64 p.1)],[]⟩)
  (fun p=>p.1<=s.length/\p.2<=255*p.1/\p.2+sumB (s.drop p.1)=sumB s) (fun p=>s.length-p.1) [] _ (0,0) rfl (by simp[M6]) (by simp) ?_
 rintro⟨k,n⟩ ⟨hk,hn,hi⟩ N hN;simp only at hk hn hi;rcases place s k hk with⟨he,hd⟩|⟨hlt,x,hx,hd⟩<;>rw[hd,sumB]at hi
 ·have hm:n%10<10:=zCh _ (by decide)
  have ht:((n:Int)%10).toNat=n%10:=by omega
  obtain⟨y,hy⟩:=bq (l:=M6) (k:=n%10) hm;have hpl:M6.length=10:=rfl;simp only[zCj]at hi;simp(disch:=omega) [-zAa,he];refine ah (lx s) rfl fun _=>?_;simp(disch:=omega) [-zAa];refine BrK.mk (fun h=>?_) (fun h=>?_)
  ·simp(disch:=omega) [-zAa]
   simp[yy,h]
  ·simp(disch:=omega) [-zAa,hpl,ht,hy]
   simp[yy,h,<-hi,hy]
 ·have hx8:=x.toNat_lt
  simp(disch:=omega) [-zAa,hx];refine hN.out _<|Nx.mk (k+1,n+x.toNat) (by simp) ⟨by simp only;omega,by simp only;omega,by simp only;omega⟩ (by simp only;omega)
def ez(b:UInt8):Bool:=(decide (65<=b.toNat)&&decide (b.toNat<=90))||(decide (b.toNat=9)||(decide (b.toNat=10)||(decide (b.toNat=12)||(decide (b.toNat=32)||(decide (b.toNat=47)||(decide (b.toNat=62)||decide (b.toNat=61)))))))
def eo(s:Str):Bool:=s.all (fun b=>!ez b)&&(decide (dN s=s)&&decide (0<s.length))
theorem sS(s:Str)(hs:s.length<=1000000):Fn Tryz.prog sr [.str s] (.bool (eo s)):=by
 refine yoA sD ?_;simp(disch:=omega) [-zAa];refine ah (LS s hs) rfl fun _=>?_;simp(disch:=omega) [-zAa];generalize hr:eo s=r;refine au (fun k:Nat=>⟨[(0,.str s),(3,.bool (decide (dN s=s))),(4,.int .i64 k)],[]⟩) (fun k=>k<=s.length/\((s.drop k).all (fun b=>!ez b)&&(decide (dN s=s)&&decide (0<s.length)))=r) (fun k=>s.length-k) [] _ 0 rfl (by simp[*]) (by simp[*,<-hr,eo]) ?_
 rintro k ⟨hk,hi⟩ N hN;rcases place s k hk with⟨he,hd⟩|⟨hlt,x,hx,hd⟩<;>rw[hd]at hi<;>replace hi:=hid hi
 ·have hi:=hi.out
  simp(disch:=omega) [-zAa,he]
  repeat' (first|(refine BrKd.mk (fun h=>?_) (fun h=>?_)<;>simp(disch:=omega) [*])|(refine BrK.mk (fun h=>?_) (fun h=>?_)<;>simp(disch:=omega) [*]))
  all_goals (first|simpa[*]using hi|(simp[*]at hi;simp[<-hi, *]))
 ·simp only[zBf]at hi
  have no:ez x=true->r=false:=fun h=>by have hi:=hi.out;simpa[h]using hi.symm
  have go:ez x=false->((s.drop (k+1)).all (fun b=>!ez b)&&(decide (dN s=s)&&decide (0<s.length)))=r:=fun h=>by have hi:=hi.out;rw[h]at hi;simpa using hi
  replace no:=hid no;replace go:=hid go;simp(disch:=omega) [-zAa,hx]
  repeat' (first|(refine BrKd.mk (fun h=>?_) (fun h=>?_)<;>simp(disch:=omega) [*])|(refine BrK.mk (fun h=>?_) (fun h=>?_)<;>simp(disch:=omega) [*]))
  all_goals first
   |(refine hN.out _<|Nx.mk (k+1) (by simp[*]) ⟨by omega,go.out ?_⟩ (by omega);simp[ez, *];done)
   |(refine hN.out _<|Nx.mk (k+1) (by simp[*]) ⟨by omega,go.out ?_⟩ (by omega);unfold ez;simp;omega)
   |(rw[no.out ?_];simp[ez, *];done)
   |(refine(no.out ?_);simp[ez, *];done)
   |(refine(no.out ?_).symm;simp[ez, *];done)
def Rq:List Str:=[[105,100],[104,114,101,102],[116,105,116,108,101],[100,97,116,97,45,97],[111,110,99,108,105,99,107]]
def cT(s:Str):Str:=if eo s then s else(Rq[s.length%5]?).getD []
theorem ux(s:Str)(hs:s.length<=1000000):Fn Tryz.prog tR [.str s] (.str (cT s)):=by
 refine yoA ub ?_;simp(disch:=omega) [-zAa];refine ah (sS s hs) rfl fun _=>?_;simp(disch:=omega) [-zAa];have hm:s.length%5<5:=zCh _ (by decide)
 have ht:((s.length:Int)%5).toNat=s.length%5:=by omega
 obtain⟨y,hy⟩:=bq (l:=Rq) (k:=s.length%5) hm
 have hy2:([.str [105,100],.str [104,114,101,102],.str [116,105,116,108,101],.str [100,97,116,97,45,97],.str [111,110,99,108,105,99,107]]:List V)[s.length%5]?=some (.str y):=by
  have:(Rq.map V.str)[s.length%5]?=some (.str y):=by rw[zBg,hy];rfl
  exact this
 refine BrK.mk (fun h=>?_) (fun h=>?_)
 ·simp(disch:=omega) [-zAa]
  simp[cT,h]
 ·simp(disch:=omega) [-zAa,ht,hy2]
  simp[cT,h,hy]
def av:List Node->List Node->List Node
 |out,[]=>out
 |out,n::l=>
   if n.kind=2/\n.text=[]then av out l
   else match out[out.length-1]? with
    |some o=>if n.kind=2/\o.kind=2 then av (out.set (out.length-1) ⟨o.kind,o.name,o.attrs,o.text++n.text,o.kids⟩) l else av (out++[n]) l
    |none=>av (out++[n]) l
def bc(l:List Node):List Node:=av [] l
theorem C7(l:List Node)(hl:l.length<=1000000)(ht:∀n∈l,n.text.length<=1000000):Fn Tryz.prog BF [.seq 5 (l.map Node.v)] (.seq 5 ((bc l).map Node.v)):=by
 refine yoA Cf ?_;simp(disch:=omega) [-zAa];generalize hw:bc l=w
 refine au (fun(q:Nat×List Node)=>⟨[(0,.seq 5 (l.map Node.v)),(3,.ref 0 q.2.length),(4,.int .i64 q.1)],[some (.arr aG 5 (q.2.map Node.v))]⟩)
  (fun q=>q.1<=l.length/\q.2.length<=q.1/\(∀n∈q.2,n.text.length<=1000000*q.1)/\av q.2 (l.drop q.1)=w) (fun q=>l.length-q.1) [.r 3 aG 5] _ (0,[]) rfl (by simp) (by simp[<-hw,bc]) ?_
 rintro⟨k,out⟩ ⟨hk,hol,htx,hi⟩ N hN;simp only at hk hol htx hi;rcases place l k hk with⟨he,hd⟩|⟨hlt,x,hx,hd⟩<;>rw[hd]at hi
 ·simp[av]at hi
  subst hi;simp(disch:=omega) [-zAa,he]
 ·have hxt:=ht x (zAc hx)
  simp only[av]at hi;by_cases h2:x.kind=2
  ·by_cases ht0:x.text=[]
   ·rw[if_pos ⟨h2,ht0⟩]at hi
    replace hi:=hid hi;simp(disch:=omega) [-zAa,hx,h2,ht0];refine hN.out _<|Nx.mk (k+1,out) (by simp) ⟨by simp only;omega,by simp only;omega,fun n hn=>by have:=htx n hn;simp only;omega,hi.out⟩ (by simp only;omega)
   ·rw[if_neg (fun h=>ht0 h.2)]at hi
    rcases zBe out.length with h0|h0
    ·have ho0:out=[]:=zAh h0
     subst ho0;simp only[List.getElem?_nil,List.nil_append]at hi;replace hi:=hid hi;simp(disch:=omega) [-zAa,hx,h2,ht0];refine hN.out _<|Nx.mk (k+1,[x]) (by simp[h2]) ⟨by simp only;omega,by simp,fun n hn=>by simp at hn;subst hn;simp only;omega,hi.out⟩ (by simp only;omega)
    ·obtain⟨o,ho⟩:=bq (l:=out) (k:=out.length-1) (by omega)
     rw[ho]at hi;simp only at hi;have hot:=htx o (zAc ho);have hoz:((out.length:Int)-1).toNat=out.length-1:=by omega
     replace hi:=hid hi;simp(disch:=omega) [-zAa,hx,h2,ht0,hoz,ho];refine BrKd.mk (fun hk2=>?_) (fun hk2=>?_)
     ·simp(disch:=omega) [-zAa,hx,h2,ht0,hoz,ho,hk2]
      have hi:=hi.out;rw[if_pos ⟨h2,hk2⟩]at hi;refine hN.out _<|Nx.mk (k+1,out.set (out.length-1) ⟨o.kind,o.name,o.attrs,o.text++x.text,o.kids⟩) (by simp[zDa,hk2]) ⟨by simp only;omega,by simp;omega,?_,hi⟩ (by simp only;omega)
      intro n hn;rcases zBh hn with hn|rfl
      ·have:=htx n hn;simp only;omega
      ·simp only[zAj];omega
     ·simp(disch:=omega) [-zAa,hx,h2,ht0,hoz,ho,hk2]
      have hi:=hi.out;rw[if_neg (fun h=>hk2 h.2)]at hi;refine hN.out _<|Nx.mk (k+1,out++[x]) (by simp[h2]) ⟨by simp only;omega,by simp;omega,?_,hi⟩ (by simp only;omega)
      intro n hn;simp only[zBc,zCb]at hn;rcases hn with hn|rfl
      ·have:=htx n hn;simp only;omega
      ·simp only;omega
  ·rw[if_neg (fun h=>h2 h.1)]at hi
   have hi2:av (out++[x]) (l.drop (k+1))=w:=by
    split at hi
    ·rw[if_neg (fun h=>h2 h.1)]at hi;exact hi
    ·exact hi
   clear hi;replace hi2:=hid hi2;simp(disch:=omega) [-zAa,hx,h2];refine hN.out _<|Nx.mk (k+1,out++[x]) (by simp) ⟨by simp only;omega,by simp;omega,?_,hi2.out⟩ (by simp only;omega)
   intro n hn;simp only[zBc,zCb]at hn;rcases hn with hn|rfl
   ·have:=htx n hn;simp only;omega
   ·simp only;omega
end Go.Abs.F
end
section
namespace Go.Abs.F
open Go.Proofs
attribute [-simp] getElem?_pos zCe List.map_map
def Ea(k:Int):Int:=if k<1\/3<k then 1 else k
def nB:List Attr->List Attr->List Attr
 |acc,[]=>acc
 |acc,a::l=>nB (if(iC acc (cT a.name)).isSome then acc else acc++[⟨cT a.name,dN a.value⟩]) l
mutual
def cm:Node->Node
 |⟨k,nm,a,t,ks⟩=>if Ea k=1 then⟨1,yy nm,nB [] a,[],bc (Ao ks)⟩else⟨Ea k,[],[],dN t,[]⟩
def Ao:List Node->List Node
 |[]=>[]
 |n::l=>cm n::Ao l
end
theorem An:∀l:List Node,Ao l=l.map cm
 |[]=>by simp[Ao]
 |n::l=>by simp[Ao,An l]
theorem j0(n:Node):cm n=if Ea n.kind=1 then⟨1,yy n.name,nB [] n.attrs,[],bc (n.kids.map cm)⟩else⟨Ea n.kind,[],[],dN n.text,[]⟩:=by
 cases n;simp[cm,An]
def Ep(n:Node):Prop:=n.name.length<=1000/\n.text.length<=1000/\n.attrs.length<=1000/\∀a∈n.attrs,a.name.length<=1000/\a.value.length<=1000
theorem mB(s:Str):(dN s).length<=4*s.length:=by
 have h1:=Dw (lm none (dy s));have h2:=JD (dy s) none;have h3:=DC s.length s (zBd _);unfold dN;omega
theorem LD(n:Node)(h:Ep n):(cm n).text.length<=4000:=by
 rw[j0];split
 ·simp
 ·have:=mB n.text;have:=h.2.1;simp only;omega
theorem GM:∀(l:List Node),an Ep l->aj l<=1000->Fn Tryz.prog jr [.seq 5 (l.map Node.v)] (.seq 5 ((bc (l.map cm)).map Node.v)):=by
 have key:∀l:List Node,(∀n∈l,an Ep n.kids->aj n.kids<=1000->Fn Tryz.prog jr [.seq 5 (n.kids.map Node.v)] (.seq 5 ((bc (n.kids.map cm)).map Node.v)))->
  an Ep l->aj l<=1000->Fn Tryz.prog jr [.seq 5 (l.map Node.v)] (.seq 5 ((bc (l.map cm)).map Node.v)):=by
  intro l hrec hfi hc;refine yoA FU ?_;have hlen:=dS l;simp(disch:=omega) [-zAa]
  refine au (fun(k:Nat)=>⟨[(0,.seq 5 (l.map Node.v)),(3,.ref 0 k),(4,.int .i64 k)],[some (.arr aG 5 (((l.take k).map cm).map Node.v))]⟩)
   (fun k=>k<=l.length) (fun k=>l.length-k) [.r 3 aG 5] _ 0 rfl (by simp) (by simp) ?_
  rintro k hk N hN;have hkl:(l.take k).length=k:=by rw[zAe];omega
  rcases place l k hk with⟨he,hd⟩|⟨hlt,x,hx,hd⟩
  ·have htk:l.take k=l:=zAi (by omega)
   rw[htk];simp(disch:=omega) [-zAa,he];refine Ks (C7 (l.map cm) (by simp;omega) (fun n hn=>?_)) fun _=>?_
   ·obtain⟨y,hy,rfl⟩:=zCc.1 hn
    have:=LD y (qH hfi hy).1;omega
   ·simp(disch:=omega) [-zAa]
  ·have hxm:=zAc hx
   obtain⟨hfx,hfk⟩:=qH hfi hxm;obtain⟨hx1,hx2,hx3,hx4⟩:=hfx;have hcx:=uK hxm
   have fin:∀τ:St,τ.nrm [0,3,4]=⟨[(0,.seq 5 (l.map Node.v)),(3,.ref 0 (k+1)),(4,.int .i64 ((k+1:Nat):Int))],[some (.arr aG 5 (((l.take k).map cm).map Node.v++[(cm x).v]))]⟩->N τ:=by
    intro τ h;refine hN.out _<|Nx.mk (k+1) ?_ (by omega) (by omega)
    rw[h,c5 hx];simp
   have hkind:x.kind<1\/3<x.kind\/x.kind=1\/x.kind=2\/x.kind=3:=by omega
   rcases hkind with h|h|h|h|h
   case inr.inr.inr.inr.inl|inr.inr.inr.inr.inr=>
    have hg:cm x=⟨x.kind,[],[],dN x.text,[]⟩:=by
     rw[j0,h];simp[Ea]
    simp(disch:=omega) [-zAa,hx,h,hkl];refine ah (by simpa using ly x.text (by omega)) rfl fun _=>?_
    simp(disch:=omega) [-zAa,hkl];refine fin _ ?_;rw[hg,h];simp
   all_goals
    have hg:cm x=⟨1,yy x.name,nB [] x.attrs,[],bc (x.kids.map cm)⟩:=by
     rw[j0,if_pos];unfold Ea;split<;>omega
    simp(disch:=omega) [-zAa,hx,h,hkl];refine ah (GK x.name (by omega)) rfl fun _=>?_
    simp(disch:=omega) [-zAa,hkl];generalize hga:nB [] x.attrs=GA at hg
    refine au (fun(q:Nat×List Attr)=>⟨[(0,.seq 5 (l.map Node.v)),(3,.ref 0 k),(4,.int .i64 k),(5,.ptr 1 0),(6,.int .i64 q.1)],
     [some (.arr aG 5 (((l.take k).map cm).map Node.v)),some (.box [.int .i64 1,.str (yy x.name),.ref 2 q.2.length,.str [],.nil 5]),some (.arr b7 2 (q.2.map Attr.v))]⟩)
     (fun q=>q.1<=x.attrs.length/\q.2.length<=q.1/\nB q.2 (x.attrs.drop q.1)=GA) (fun q=>x.attrs.length-q.1) [.b 1 2 b7 2] _ (0,[]) rfl (by simp) (by simp[hga]) ?_
    rintro⟨j,acc⟩ ⟨hj,hal,hi⟩ N2 hN2;simp only at hj hal hi;rcases place x.attrs j hj with⟨he2,hd2⟩|⟨hlt2,y,hy,hd2⟩<;>rw[hd2]at hi
    ·simp only[nB]at hi
     subst hi;simp(disch:=omega) [-zAa,hx,he2];refine ay (hrec x hxm hfk (by omega)) (by simp) fun _=>?_
     simp(disch:=omega) [-zAa,hkl];refine fin _ ?_;rw[hg];simp
    ·obtain⟨hy1,hy2⟩:=hx4 y (zAc hy)
     simp only[nB]at hi;replace hi:=hid hi;simp(disch:=omega) [-zAa,hx,hy];refine aI (ux y.name (by omega)) rfl ?_
     simp(disch:=omega) [-zAa,hx,hy];refine aI (by simpa using ly y.value (by omega)) rfl ?_
     simp(disch:=omega) [-zAa,hx,hy];refine ah (by simpa using C6 ⟨1,yy x.name,acc,[],[]⟩ (cT y.name)) rfl fun _=>?_
     simp(disch:=omega) [-zAa,hx,hy];refine BrK.mk (fun hb=>?_) (fun hb=>?_)
     ·simp(disch:=omega) [-zAa]
      have hi:=hi.out;rw[if_pos hb]at hi;refine hN2.out _<|Nx.mk (j+1,acc) (by simp) ⟨by simp only;omega,by simp only;omega,hi⟩ (by simp only;omega)
     ·simp(disch:=omega) [-zAa,hkl]
      have hi:=hi.out;rw[if_neg (by simp[hb])]at hi
      refine hN2.out _<|Nx.mk (j+1,acc++[⟨cT y.name,dN y.value⟩]) (by simp) ⟨by simp only;omega,by simp;omega,hi⟩ (by simp only;omega)
 have all:∀l:List Node,∀n∈l,an Ep n.kids->aj n.kids<=1000->Fn Tryz.prog jr [.seq 5 (n.kids.map Node.v)] (.seq 5 ((bc (n.kids.map cm)).map Node.v)):=by
  refine ax (fun x hx=>by cases hx) ?_
  intro n l h1 h2 x hx;rcases zBa.1 hx with rfl|hx
  ·exact key _ h1
  ·exact h2 x hx
 exact fun l=>key l (all l)
theorem Pv:∀(l:List Node)(m:Nat),an Ep (dv l m).1:=by
 refine ax (fun m=>by simp[dv,an]) ?_
 intro n l h1 h2 m;simp only[dv,yo];split
 ·simp[an]
 ·simp only[an,Kf]
  refine⟨⟨⟨by simp[qZ];omega,by simp[qZ];omega,by simp;omega,fun a ha=>?_⟩,h1 _⟩,h2 _⟩
  simp only[zCc]at ha;obtain⟨b,_,rfl⟩:=ha;simp[O9,qZ];omega
def cR(l:List Node):List Node:=bc ((dv l 40).1.map cm)
theorem GO(l:List Node):Fn Tryz.prog Fk [.seq 5 (l.map Node.v)] (.seq 5 ((cR l).map Node.v)):=by
 refine yoA FW ?_;simp(disch:=omega) [-zAa];refine ay (JJ l) (by simp) fun _=>?_
 simp(disch:=omega) [-zAa];refine ay (GM (dv l 40).1 (Pv l 40) (by have:=uJ l 40;omega)) (by simp) fun _=>?_
 simp(disch:=omega) [-zAa,cR]
def zU(w:Str):Str->Bool
 |[]=>kq [] w
 |b::t=>kq (b::t) w||zU w t
def kU(b:UInt8):UInt8:=if 65<=b.toNat/\b.toNat<=90 then b8 (b.toNat+32)else b
def SQ(b:UInt8):Bool:=decide (b.toNat=9)||(decide (b.toNat=10)||(decide (b.toNat=12)||decide (b.toNat=32)))
def VD(b:UInt8):Bool:=SQ b||(decide (b.toNat=47)||decide (b.toNat=62))
def Ew(nm:Str)(s:Str):Bool:=decide ((s.take (2+nm.length)).map kU=[60,47]++nm)&&(match s[2+nm.length]? with
 |some c=>VD c
 |none=>false)
def iP(nm:Str):Nat->Str->Int
 |_,[]=>-1
 |i,b::t=>if Ew nm (b::t)then i else iP nm (i+1) t
def ends(s nm:Str):Int:=iP nm 0 s
def cJ(par:Str)(n:Node):Bool:=
 if Hp par then false
 else if raw par then decide (n.kind=2)&&decide (ends (n.text++[60,47]++par++[62]) par=n.text.length)
 else !decide (n.kind=1)|| !lz par n.name
def aS(par:Str)(l:List Node):List Node:=l.filter (cJ par)
def vc:Str:=[45,45,62]
mutual
def aL:Node->List Node
 |⟨k,nm,a,t,ks⟩=>if k=3/\zU vc t=true then[]else if k=1 then[⟨k,nm,a,t,aS nm (bc (tw (cJ nm) ks))⟩]else[⟨k,nm,a,t,ks⟩]
def tw(f:Node->Bool):List Node->List Node
 |[]=>[]
 |n::l=>(if f n then aL n else[])++tw f l
end
theorem yH(f:Node->Bool):∀l:List Node,tw f l=(l.filter f).flatMap aL
 |[]=>by simp[tw]
 |n::l=>by
   simp only[tw,yH f l,zCg];cases f n<;>simp
theorem gx(n:Node):aL n=if n.kind=3/\zU vc n.text=true then[]else if n.kind=1 then[⟨n.kind,n.name,n.attrs,n.text,aS n.name (bc ((aS n.name n.kids).flatMap aL))⟩]else[n]:=by
 cases n;simp[aL,yH,aS]
def mt(l:List Node):List Node:=bc (l.flatMap aL)
def bZ(l:List Node):Nat:=(l.map fun n=>n.text.length).sum
theorem Hz:∀{l:List Node}{n:Node},n∈l->n.text.length<=bZ l
 |[],n,h=>by cases h
 |x::l,n,h=>by
   simp only[bZ,zAg,zBi];rcases zBa.1 h with rfl|h
   ·omega
   ·have:=Hz h;simp only[bZ]at this;omega
theorem ww(a b:List Node):bZ (a++b)=bZ a+bZ b:=by simp[bZ]
theorem oo(f:Node->Bool):∀l:List Node,bZ (l.filter f)<=bZ l
 |[]=>by simp[bZ]
 |n::l=>by
   have:=oo f l;simp only[bZ,zCg]at *;split<;>simp<;>omega
theorem Hy:∀(l:List Node)(i:Nat)(o n:Node),l[i]?=some o->bZ (l.set i n)+o.text.length=bZ l+n.text.length
 |[],i,o,n,h=>by simp at h
 |x::l,0,o,n,h=>by simp at h;subst h;simp[bZ];omega
 |x::l,i+1,o,n,h=>by
   have:=Hy l i o n (by simpa using h)
   simp only[bZ,zCd,zAg,zBi]at *;omega
theorem ju:∀(l out:List Node),(av out l).length<=out.length+l.length/\bZ (av out l)<=bZ out+bZ l
 |[],out=>by simp[av,bZ]
 |n::l,out=>by
   have hc:bZ (n::l)=n.text.length+bZ l:=by simp[bZ]
   have h1:=ju l out;have h2:=ju l (out++[n]);rw[ww]at h2;have hn:bZ [n]=n.text.length:=by simp[bZ]
   simp only[zAj,zAd,zBb]at h2;simp only[av,zAd];split
   ·omega
   ·split
    ·rename_i o ho
     split
     ·have h3:=ju l (out.set (out.length-1) ⟨o.kind,o.name,o.attrs,o.text++n.text,o.kids⟩)
      have h4:=Hy out (out.length-1) o ⟨o.kind,o.name,o.attrs,o.text++n.text,o.kids⟩ ho;simp only[List.length_set,zAj]at h3 h4;omega
     ·omega
    ·omega
theorem mL(l:List Node):(bc l).length<=l.length/\bZ (bc l)<=bZ l:=by
 have:=ju l [];simpa[bc,bZ]using this
def right(s:Str):Bool:=decide (dN s=s)
def gn:List Attr->Str->Bool
 |[],_=>false
 |a::l,s=>if a.name=s then true else gn l s
def pO:List Attr->List Attr->Int
 |_,[]=>0
 |pre,a::l=>if eo a.name then(if gn pre a.name then 5 else pO (pre++[a]) l)else 4
def fK:List Attr->Bool
 |[]=>true
 |a::l=>right a.value&&fK l
def pM(n:Node):Int:=
 if n.text=[]then(if named n.name then(if pO [] n.attrs=0 then(if fK n.attrs then 0 else 2)else pO [] n.attrs)else 4)else 7
theorem AK:∀(l pre:List Attr),pO pre l=0\/pO pre l=4\/pO pre l=5
 |[],pre=>by simp[pO]
 |a::l,pre=>by
   simp only[pO];split
   ·split
    ·simp
    ·exact AK l _
   ·simp
def fine1(n:Node):Prop:=n.name.length<=1000000/\n.text.length<=1000000/\n.attrs.length<=1000000/\∀a∈n.attrs,a.name.length<=1000000/\a.value.length<=1000000
def qJ(n:Node)(txt:Bool):Int:=
 if n.kind=1 then pM n
 else if n.kind=2\/n.kind=3 then(if n.name=[]/\n.attrs=[]/\n.kids=[]then(if right n.text/\(n.kind=2->¬n.text=[]/\txt=false)then 0 else 2)else 7)
 else 7
mutual
def Vh:Node->Int
 |⟨_,_,_,_,ks⟩=>xH false ks
def xH:Bool->List Node->Int
 |_,[]=>0
 |txt,n::l=>if qJ n txt=0 then(if Vh n=0 then xH (decide (n.kind=2)) l else Vh n)else qJ n txt
end
theorem M8(n:Node):Vh n=xH false n.kids:=by cases n;simp[Vh]
def may(l:List Node):Int:=xH false l
def gr(l:List Node)(k:Nat):Bool:=decide (0<k)&&(match l[k-1]? with
 |some n=>decide (n.kind=2)
 |none=>false)
theorem aP{f:Node->Prop}:∀{l:List Node},an f l↔∀n∈l,f n/\an f n.kids
 |[]=>by simp[an]
 |n::l=>by simp[an,ve,aP (l:=l)]
theorem dK{f g:Node->Prop}(h:∀n,f n->an f n.kids->g n):∀l:List Node,an f l->an g l:=by
 refine ax (fun _=>by simp[an]) ?_
 intro n l h1 h2 ha;simp only[an,ve]at ha⊢;exact⟨⟨h n ha.1.1 ha.1.2,h1 ha.1.2⟩,h2 ha.2⟩
theorem cK(a b:List Node):aj (a++b)=aj a+aj b:=by
 induction a with
 |nil=>simp[aj]
 |cons x a ih=>simp only[List.cons_append,aj,ih];omega
theorem EB:∀(l:List Node)(i:Nat)(o n:Node),l[i]?=some o->aj n.kids=aj o.kids->aj (l.set i n)=aj l
 |[],i,o,n,h,_=>by simp at h
 |x::l,0,o,n,h,hk=>by simp at h;subst h;simp[aj,uM,hk]
 |x::l,i+1,o,n,h,hk=>by
   have:=EB l i o n (by simpa using h) hk
   simp only[zCd,aj,this]
theorem kR:∀(l out:List Node),aj (av out l)<=aj out+aj l
 |[],out=>by simp[av,aj]
 |n::l,out=>by
   have h1:=kR l out;have h2:=kR l (out++[n]);rw[cK]at h2;have hn:aj [n]=j6 n:=by simp[aj]
   have hc:aj (n::l)=j6 n+aj l:=by simp[aj]
   simp only[av];split
   ·omega
   ·split
    ·rename_i o ho
     split
     ·have h3:=kR l (out.set (out.length-1) ⟨o.kind,o.name,o.attrs,o.text++n.text,o.kids⟩)
      have e:=EB out (out.length-1) o ⟨o.kind,o.name,o.attrs,o.text++n.text,o.kids⟩ ho rfl;rw[e]at h3;omega
     ·omega
    ·omega
theorem D1(l:List Node):aj (bc l)<=aj l:=by
 have:=kR l [];simpa[bc,aj]using this
theorem ii{P:Node->Prop}(hP:∀k n a t ks t',P ⟨k,n,a,t,ks⟩->P ⟨k,n,a,t',ks⟩):∀(l out:List Node),(∀n∈out,P n)->(∀n∈l,P n)->∀n∈av out l,P n
 |[],out,ho,_=>by simpa[av]using ho
 |n::l,out,ho,hl=>by
   have hn:=hl n (by simp)
   have hl':∀n∈l,P n:=fun x hx=>hl x (by simp[hx])
   have hon:∀x∈out++[n],P x:=fun x hx=>by
    rcases zBc.1 hx with h|h
    ·exact ho x h
    ·simp at h;subst h;exact hn
   simp only[av];split
   ·exact ii hP l out ho hl'
   ·split
    ·rename_i o hoo
     split
     ·refine ii hP l _ (fun x hx=>?_) hl'
      rcases zBh hx with h|h
      ·exact ho x h
      ·subst h
       have:=ho o (zAc hoo);obtain⟨k0,n0,a0,t0,ks0⟩:=o;exact hP _ _ _ _ _ _ this
     ·exact ii hP l _ hon hl'
    ·exact ii hP l _ hon hl'
theorem OD{P:Node->Prop}(hP:∀k n a t ks t',P ⟨k,n,a,t,ks⟩->P ⟨k,n,a,t',ks⟩){l:List Node}(h:∀n∈l,P n):∀n∈bc l,P n:=ii hP l [] (fun _ h=>by cases h) h
def Eo(n:Node):Prop:=n.name.length<=1000/\n.attrs.length<=1000/\(∀a∈n.attrs,a.name.length<=1000/\a.value.length<=1000)/\n.kids.length<=1000/\bZ n.kids<=1000000
theorem wL{l:List Node}(h:an Eo l):an Eo (bc l):=
 aP.2 (OD (P:=fun n=>Eo n/\an Eo n.kids) (fun k n a t ks t' h=>h) (aP.1 h))
def LQ(n:Node):Prop:=n.name.length<=30/\n.text.length<=30/\n.attrs.length<=5/\∀a∈n.attrs,a.name.length<=30/\a.value.length<=30
theorem w6:∀(l:List Node)(m:Nat),an LQ (dv l m).1:=by
 refine ax (fun m=>by simp[dv,an]) ?_
 intro n l h1 h2 m;simp only[dv,yo];split
 ·simp[an]
 ·simp only[an,Kf]
  refine⟨⟨⟨by simp[qZ];omega,by simp[qZ];omega,by simp;omega,fun a ha=>?_⟩,h1 _⟩,h2 _⟩
  simp only[zCc]at ha;obtain⟨b,_,rfl⟩:=ha;simp[O9,qZ];omega
theorem Ie{l:List Str}{m:Nat}(h:l.all (fun s=>decide (s.length<=m))=true)(i:Nat):((l[i]?).getD []).length<=m:=by
 cases hi:l[i]? with
 |none=>simp
 |some x=>simpa using List.all_eq_true.1 h x (zAc hi)
theorem sN:∀(l acc:List Attr),(∀a∈l,a.name.length<=30/\a.value.length<=30)->(∀a∈acc,a.name.length<=1000/\a.value.length<=1000)->
 (nB acc l).length<=acc.length+l.length/\∀a∈nB acc l,a.name.length<=1000/\a.value.length<=1000
 |[],acc,_,ha=>by simpa[nB]using ha
 |x::l,acc,hl,ha=>by
   have hx:=hl x (by simp)
   have hl':∀a∈l,a.name.length<=30/\a.value.length<=30:=fun a h=>hl a (by simp[h])
   simp only[nB];split
   ·have:=sN l acc hl' ha
    exact⟨by simp;omega,this.2⟩
   ·have:=sN l (acc++[⟨cT x.name,dN x.value⟩]) hl' (fun a h=>by
     rcases zBc.1 h with h|h
     ·exact ha a h
     ·simp at h;subst h
      have h1:=mB x.value
      have h2:(cT x.name).length<=1000:=by
       unfold cT;split
       ·omega
       ·have:=Ie (l:=Rq) (m:=1000) (by decide) (x.name.length%5)
        omega
      exact⟨h2,by simp only;omega⟩)
    exact⟨by have:=this.1;simp at this⊢;omega,this.2⟩
theorem yF(f:Node->Node)(c:Nat):∀l:List Node,(∀n∈l,(f n).text.length<=c)->bZ (l.map f)<=c*l.length
 |[],_=>by simp[bZ]
 |n::l,h=>by
   have h1:=h n (by simp)
   have h2:=yF f c l (fun x hx=>h x (by simp[hx]))
   simp only[bZ,zAg,zBi,zAd,Nat.mul_succ]at *;omega
theorem LF:∀l:List Node,an LQ l->aj l<=1000->an Eo (l.map cm)/\aj (l.map cm)<=aj l/\(∀n∈l.map cm,n.text.length<=120):=by
 refine ax (fun _ _=>by simp[an,aj]) ?_
 intro n l h1 h2 ha hc;simp only[an,ve]at ha;simp only[aj,uM]at hc;obtain⟨g1,g2,g3⟩:=h2 ha.2 (by omega)
 obtain⟨k1,k2,k3⟩:=h1 ha.1.2 (by omega)
 have hw:(yy n.name).length<=1000:=by
  unfold yy;split
  ·have:=ha.1.1.1;omega
  ·have:=Ie (l:=M6) (m:=1000) (by decide) (sumB n.name%10);omega
 have hA:=sN n.attrs [] ha.1.1.2.2.2 (fun _ h=>by cases h)
 have hr:=mB n.text;have ht:=ha.1.1.2.1;have hat:=ha.1.1.2.2.1;have hm:=mL (n.kids.map cm);have hmc:=D1 (n.kids.map cm);have hkl:=dS n.kids;have hts:=yF cm 120 n.kids (fun x hx=>k3 _ (zBj hx));have hts2:120*n.kids.length<=120*1000:=zCa _ (by omega)
 simp only[List.length_map]at hm;simp only[zBb,Nat.zero_add]at hA;refine⟨?_,?_,?_⟩
 ·simp only[zAg,an,ve]
  refine⟨?_,g1⟩;rw[j0];split
  ·refine⟨⟨hw,?_,hA.2,?_,?_⟩,wL k1⟩
   ·simp only;omega
   ·simp only;omega
   ·simp only;omega
  ·exact⟨⟨by simp,by simp,by simp,by simp,by simp[bZ]⟩,by simp[an]⟩
 ·simp only[zAg,aj,uM]
  rw[j0];split
  ·simp only;omega
  ·simp only[aj];omega
 ·intro x hx
  simp only[zAg,zBa]at hx;rcases hx with rfl|hx
  ·rw[j0]
   split
   ·simp
   ·simp only;omega
  ·exact g3 x hx
theorem Ju(l:List Node):an Eo (cR l)/\aj (cR l)<=40/\bZ (cR l)<=4800:=by
 have hc:=uJ l 40;obtain⟨h1,h2,h3⟩:=LF (dv l 40).1 (w6 l 40) (by omega)
 have hm:=mL ((dv l 40).1.map cm);have hmc:=D1 ((dv l 40).1.map cm);have ht:=yF cm 120 (dv l 40).1 (fun x hx=>h3 _ (zBj hx));have hl:=dS (dv l 40).1;have:120*(dv l 40).1.length<=120*40:=zCa _ (by omega)
 exact⟨wL h1,by unfold cR;omega,by unfold cR;omega⟩
theorem pG(s:Str):Fn Tryz.prog Iy [.str s] (.bool (named s)):=by
 refine yoB I2 fun ho=>?_;simp only[oks,ok,and_true]at ho;simp(disch:=omega) [-zAa];generalize hr:named s=r;refine au (fun k:Nat=>⟨[(0,.str s),(7,.int .i64 s.length),(8,.int .i64 k)],[]⟩) (fun k=>k<=s.length/\(if k=0 then named s else(s.drop k).all dH)=r) (fun k=>s.length-k) [] _ 0 rfl (by simp) (by simp[hr]) ?_
 rintro k ⟨hk,hi⟩ N hN;by_cases hk0:k=0
 ·subst hk0
  simp only[if_true]at hi;cases s with
  |nil=>simp[named]at hi;subst hi;simp(disch:=omega) [-zAa]
  |cons b t=>
    have hb:=b.toNat_lt;simp only[named,zBf]at hi;replace hi:=hid hi;simp(disch:=omega) [-zAa]
    repeat' (first|(refine BrKd.mk (fun h=>?_) (fun h=>?_)<;>simp(disch:=omega) [*])|(refine BrK.mk (fun h=>?_) (fun h=>?_)<;>simp(disch:=omega) [*]))
    all_goals first
     |(refine hN.out _<|Nx.mk 1 (by simp[*]) ⟨by simp,?_⟩ (by simp);have hi:=hi.out;simpa(disch:=omega) [dH,small,decide_eq_true,decide_eq_false, *]using hi)
     |(have hi:=hi.out;simpa(disch:=omega) [dH,small,decide_eq_true,decide_eq_false, *]using hi)
     |omega
 ·simp only[if_neg hk0]at hi
  rcases place s k hk with⟨he,hd⟩|⟨hlt,x,hx,hd⟩<;>rw[hd]at hi<;>replace hi:=hid hi
  ·simp(disch:=omega) [-zAa,he]
   have hi:=hi.out;have:s≠[]:=by intro h;subst h;simp at he;omega
   simpa[this]using hi
  ·have hb:=x.toNat_lt
   simp only[zBf]at hi;simp(disch:=omega) [-zAa,hx]
   repeat' (first|(refine BrKd.mk (fun h=>?_) (fun h=>?_)<;>simp(disch:=omega) [*])|(refine BrK.mk (fun h=>?_) (fun h=>?_)<;>simp(disch:=omega) [*]))
   all_goals first
    |omega
    |(refine hN.out _<|Nx.mk (k+1) (by simp[*]) ⟨by omega,?_⟩ (by omega);have hi:=hi.out;rw[if_neg (by omega)];simpa(disch:=omega) [dH,small,decide_eq_true,decide_eq_false, *]using hi)
    |(have hi:=hi.out;simpa(disch:=omega) [dH,small,decide_eq_true,decide_eq_false, *]using hi)
theorem L6(s:Str):Fn Tryz.prog zm [.str s] (.bool (Hp s)):=by
 refine yoB zR fun ho=>?_;simp only[oks,ok,and_true]at ho;simp(disch:=omega) [-zAa,Hp]
 repeat' (first|(refine BrKd.mk (fun h=>?_) (fun h=>?_)<;>simp(disch:=omega) [*])|(refine BrK.mk (fun h=>?_) (fun h=>?_)<;>simp(disch:=omega) [*]))
theorem Es(s:Str):Fn Tryz.prog DX [.str s] (.bool (raw s)):=by
 refine yoB Ef fun ho=>?_;simp only[oks,ok,and_true]at ho;simp(disch:=omega) [-zAa,raw]
 repeat' (first|(refine BrKd.mk (fun h=>?_) (fun h=>?_)<;>simp(disch:=omega) [*])|(refine BrK.mk (fun h=>?_) (fun h=>?_)<;>simp(disch:=omega) [*]))
theorem AA(s:Str):Fn Tryz.prog zi [.str s] (.bool (plain s)):=by
 refine yoB zL fun ho=>?_;simp only[oks,ok,and_true]at ho;simp(disch:=omega) [-zAa,plain]
 repeat' (first|(refine BrKd.mk (fun h=>?_) (fun h=>?_)<;>simp(disch:=omega) [*])|(refine BrK.mk (fun h=>?_) (fun h=>?_)<;>simp(disch:=omega) [*])|(refine ah (pG _) rfl (fun _=>?_)<;>simp(disch:=omega) [*])|(refine aI (pG _) rfl ?_<;>simp(disch:=omega) [*]))
 all_goals simp[*]
theorem gO(p:Policy)(s:Str):Fn Tryz.prog BL [p.v,.str s] (.tup [((aW p.elements s).getD .zero).v,.bool (aW p.elements s).isSome]):=by
 refine yoB Cl fun ho=>?_;simp only[oks,ok,and_true]at ho;have hlen:p.elements.length<=140737488355328:=by have:=ho.1;simp at this;exact this.2.1.1
 clear ho;simp(disch:=omega) [-zAa];generalize hr:aW p.elements s=r;refine au (fun k:Nat=>⟨[(1,.str s),(4,.ptr 0 0),(9,.seq 3 (p.elements.map Allowed.v)),(10,.int .i64 p.elements.length),(11,.int .i64 k)],[some (.box [.str [],.nil 1,.nil 5])]⟩) (fun k=>k<=p.elements.length/\aW (p.elements.drop k) s=r) (fun k=>p.elements.length-k) [] _ 0 rfl (by simp[*]) (by simp[*]) ?_
 rintro k ⟨hk,hi⟩ N hN;rcases place p.elements k hk with⟨he,hd⟩|⟨hlt,x,hx,hd⟩<;>rw[hd]at hi<;>replace hi:=hid hi
 ·simp(disch:=omega) [-zAa,he]
  simp[<-hi.out,aW,Allowed.zero]
 ·simp(disch:=omega) [-zAa,hx]
  repeat' (first|(refine BrKd.mk (fun h=>?_) (fun h=>?_)<;>simp(disch:=omega) [*])|(refine BrK.mk (fun h=>?_) (fun h=>?_)<;>simp(disch:=omega) [*]))
  all_goals first
   |(refine hN.out _<|Nx.mk (k+1) (by simp[*]) ⟨by omega,?_⟩ (by omega);simpa(disch:=omega) [*,decide_eq_true,decide_eq_false,aW]using hi.out)
   |(have hi:=hi.out;simp[aW, *]at hi;subst hi;simp[*])
end Go.Abs.F
end
