/- What the first functions of the document's packages answer. No condition. -/
import Derived.Test.YtnnbodoijkbceaaGreatDoorICodeA
import Derived.Lib.Bytealg
import Derived.Test.YtnnbodoijkbceaaGreatDoorICodeW
set_option linter.all false
set_option maxHeartbeats 0
set_option maxRecDepth 100000
open List renaming reduceReplicate→zAa,mem_of_getElem?→zAb,take→zAc,length_cons→zAd,length_take→zAe,getElem?_take→zAf,eq_nil_of_length_eq_zero→zAg,mem_cons→zAh,take_of_length_le→zAi,map_cons→zAj,length_append→zBa,all_cons→zBb,length_nil→zBc,mem_append→zBd,filter_cons→zBf,mem_map_of_mem→zBg,getElem?_map→zBi,mem_or_eq_of_mem_set→zBj,sum_cons→zCa,length_pos_iff→zCb,mem_singleton→zCd,mem_map→zCe,set_cons_succ→zCf,flatten_cons→zCh,flatMap_cons→zCi,any_cons→zDc,map_set→zDe
open Nat renaming eq_zero_or_pos→zBe,le_refl→zBh,mul_le_mul_left→zCc,mod_lt→zDa,add_zero→zDd
open Option renaming not_isSome→zCg
open Bool renaming not_eq_true→zCj,false_and→zDb
open Option.some renaming injEq→zDf
open List.cons renaming injEq→zDg
section
namespace Go.Abs.F
open Go.Proofs
attribute [-simp] getElem?_pos
theorem mixed:Tryz.prog.follows .mixedOrders=true:=by kernel_rfl
abbrev Str:=List UInt8
def small(b:UInt8):Bool:=97<=b.toNat&&b.toNat<=122
theorem mz(b:UInt8):Fn Tryz.prog El [.int .u8 b.toNat] (.bool (small b)):=by
 refine yoB Fa fun ho=>?_;simp only[oks,ok,and_true]at ho;simp(disch:=omega) [-zAa,small]
 repeat' (first|(refine BrKd.mk (fun h=>?_) (fun h=>?_)<;>simp(disch:=omega) [*])|(refine BrK.mk (fun h=>?_) (fun h=>?_)<;>simp(disch:=omega) [*]))
def eh(b:UInt8):Bool:=small b||(48<=b.toNat&&b.toNat<=57)||decide (b.toNat=45)
def named:Str->Bool
 |[]=>false
 |b::s=>small b&&(b::s).all eh
theorem iI(s:Str):Fn Tryz.prog En [.str s] (.bool (named s)):=by
 refine yoB Fc fun ho=>?_;simp only[oks,ok,and_true]at ho;cases s with
 |nil=>simp(disch:=omega) [-zAa,named]
 |cons b t=>
   simp(disch:=omega) [-zAa];refine ac (mz b) rfl fun _=>?_;simp(disch:=omega) [-zAa];generalize hr:named (b::t)=r;generalize hs:b::t=s at *;refine ak (fun k:Nat=>⟨[(0,.str s),(3,.bool (small b)),(4,.int .i64 k)],[]⟩) (fun k=>k<=s.length/\(small b&&(s.drop k).all eh)=r) (fun k=>s.length-k) [] _ 0 rfl (by simp) (by simp[<-hr,<-hs,named]) ?_
   rintro k ⟨hk,hi⟩ N hN;rcases place s k hk with⟨he,hd⟩|⟨hlt,x,hx,hd⟩<;>rw[hd]at hi<;>replace hi:=hid hi
   ·simp(disch:=omega) [-zAa,he]
    simpa using hi.out
   ·simp(disch:=omega) [-zAa,hx]
    repeat' (first|(refine BrKd.mk (fun h=>?_) (fun h=>?_)<;>simp(disch:=omega) [*])|(refine BrK.mk (fun h=>?_) (fun h=>?_)<;>simp(disch:=omega) [*])|(refine ac (mz _) rfl (fun _=>?_)<;>simp(disch:=omega) [*])|(refine ay (mz _) rfl ?_<;>simp(disch:=omega) [*]))
    all_goals first
     |(refine hN.out _<|Nx.mk (k+1) (by simp[*]) ⟨by omega,?_⟩ (by omega);simpa(disch:=omega) [*,decide_eq_true,decide_eq_false,eh]using hi.out)
     |(first|simpa(disch:=omega) [*,decide_eq_true,decide_eq_false,eh]using hi.out.symm|simpa(disch:=omega) [*,decide_eq_true,decide_eq_false,eh]using hi.out)
def plain(s:Str):Bool:=named s&&s.length<=16
theorem iG(s:Str):Fn Tryz.prog Eb [.str s] (.bool (plain s)):=by
 refine yoB EY fun ho=>?_;simp only[oks,ok,and_true]at ho;simp(disch:=omega) [-zAa,plain]
 repeat' (first|(refine BrKd.mk (fun h=>?_) (fun h=>?_)<;>simp(disch:=omega) [*])|(refine BrK.mk (fun h=>?_) (fun h=>?_)<;>simp(disch:=omega) [*])|(refine ac (iI _) rfl (fun _=>?_)<;>simp(disch:=omega) [*])|(refine ay (iI _) rfl ?_<;>simp(disch:=omega) [*]))
structure Attr where
 name:Str
 value:Str
structure Constraint where
 kind:Int
 words:List Str
 regex:Str
structure Rule where
 name:Str
 value:Constraint
 req:Bool
structure Allowed where
 name:Str
 kids:List Str
 rules:List Rule
structure Policy where
 top:List Str
 elements:List Allowed
 unwrap:List Str
@[simp] def Attr.v (a:Attr):V:=.strct [.str a.name,.str a.value]
def Constraint.c(c:Constraint):List V:=[.int .i64 c.kind,.seq 1 (c.words.map .str),.str c.regex]
@[simp] def Constraint.v (c:Constraint):V:=.strct c.c
@[simp] def Rule.v (r:Rule):V:=.strct [.str r.name,.int .i64 r.value.kind,.seq 1 (r.value.words.map .str),.str r.value.regex,.bool r.req]
@[simp] def Allowed.v (a:Allowed):V:=.strct [.str a.name,.seq 1 (a.kids.map .str),.seq 5 (a.rules.map Rule.v)]
@[simp] def Policy.v (p:Policy):V:=.strct [.seq 1 (p.top.map .str),.seq 3 (p.elements.map Allowed.v),.seq 1 (p.unwrap.map .str)]
attribute [simp] Constraint.c
def aT:List Allowed->Str->Option Allowed
 |[],_=>none
 |e::l,s=>if e.name=s then some e else aT l s
def Allowed.zero:Allowed:=⟨[],[],[]⟩
theorem kh(p:Policy)(s:Str):Fn Tryz.prog I3 [p.v,.str s] (.tup [((aT p.elements s).getD .zero).v,.bool (aT p.elements s).isSome]):=by
 refine yoB JO fun ho=>?_;simp only[oks,ok,and_true]at ho;simp(disch:=omega) [-zAa];generalize hr:aT p.elements s=r;refine ak (fun k:Nat=>⟨[(1,.str s),(2,.ptr 0 0),(4,.ptr 1 0),(6,.int .i64 k)],[some (.box [.seq 1 (p.top.map .str),.seq 3 (p.elements.map Allowed.v),.seq 1 (p.unwrap.map .str)]),some (.box [.str [],.nil 1,.nil 5])]⟩) (fun k=>k<=p.elements.length/\aT (p.elements.drop k) s=r) (fun k=>p.elements.length-k) [] _ 0 rfl (by simp[*]) (by simp[*]) ?_
 rintro k ⟨hk,hi⟩ N hN;rcases place p.elements k hk with⟨he,hd⟩|⟨hlt,x,hx,hd⟩<;>rw[hd]at hi<;>replace hi:=hid hi
 ·simp(disch:=omega) [-zAa,he]
  simp[<-hi.out,aT,Allowed.zero]
 ·have hlen:p.elements.length<=140737488355328:=by have:=ho.1;simp at this;exact this.2.1.1
  simp(disch:=omega) [-zAa,hx]
  repeat' (first|(refine BrKd.mk (fun h=>?_) (fun h=>?_)<;>simp(disch:=omega) [*])|(refine BrK.mk (fun h=>?_) (fun h=>?_)<;>simp(disch:=omega) [*]))
  all_goals first
   |(refine hN.out _<|Nx.mk (k+1) (by simp[*]) ⟨by omega,?_⟩ (by omega);simpa(disch:=omega) [*,decide_eq_true,decide_eq_false,aT]using hi.out)
   |(have hi:=hi.out;simp[aT, *]at hi;subst hi;simp[*])
def eZ(s:Str):Str×Bool:=match s[s.length-1]? with
 |some x=>if x.toNat=42 then(s.take (s.length-1),true)else(s,false)
 |none=>(s,false)
theorem wn(s:Str):Fn Tryz.prog IW [.str s] (.tup [.str (eZ s).1,.bool (eZ s).2]):=by
 refine yoB JH fun ho=>?_;simp only[oks,ok,and_true]at ho;by_cases hp:0<s.length
 ·obtain⟨x,hx⟩:=aP (l:=s) (k:=s.length-1) (by omega)
  simp(disch:=omega) [-zAa];simp[hx]
  repeat' (first|(refine BrKd.mk (fun h=>?_) (fun h=>?_)<;>simp(disch:=omega) [*])|(refine BrK.mk (fun h=>?_) (fun h=>?_)<;>simp(disch:=omega) [*]))
  all_goals first|omega|simp[eZ, *]
 ·have:s=[]:=by cases s;rfl;simp at hp
  subst this;simp(disch:=omega) [-zAa,eZ]
def hasS:List Str->Str->Bool
 |[],_=>false
 |x::l,s=>if x=s then true else hasS l s
theorem ja(l:List Str)(s:Str):Fn Tryz.prog MP [.seq 1 (l.map .str),.str s] (.bool (hasS l s)):=by
 refine yoB Nq fun ho=>?_;simp only[oks,ok,and_true]at ho;simp(disch:=omega) [-zAa];generalize hr:hasS l s=r;refine ak (fun k:Nat=>⟨[(0,.seq 1 (l.map .str)),(1,.str s),(5,.int .i64 k)],[]⟩) (fun k=>k<=l.length/\hasS (l.drop k) s=r) (fun k=>l.length-k) [] _ 0 rfl (by simp[*]) (by simp[*]) ?_
 rintro k ⟨hk,hi⟩ N hN;rcases place l k hk with⟨he,hd⟩|⟨hlt,x,hx,hd⟩<;>rw[hd]at hi<;>replace hi:=hid hi
 ·simp(disch:=omega) [-zAa,he]
  simpa[hasS]using hi.out
 ·have hlen:l.length<=140737488355328:=by have:=ho.1.1;simpa using this
  simp(disch:=omega) [-zAa,hx]
  repeat' (first|(refine BrKd.mk (fun h=>?_) (fun h=>?_)<;>simp(disch:=omega) [*])|(refine BrK.mk (fun h=>?_) (fun h=>?_)<;>simp(disch:=omega) [*]))
  all_goals first
   |(refine hN.out _<|Nx.mk (k+1) (by simp[*]) ⟨by omega,?_⟩ (by omega);simpa(disch:=omega) [*,decide_eq_true,decide_eq_false,hasS]using hi.out)
   |(first|simpa(disch:=omega) [*,decide_eq_true,decide_eq_false,hasS]using hi.out.symm|simpa(disch:=omega) [*,decide_eq_true,decide_eq_false,hasS]using hi.out)
def sign(b:UInt8):Bool:=32<=b.toNat&&b.toNat<=126
theorem mu(s:Str):Fn Tryz.prog Ed [.str s] (.bool (s.all sign)):=by
 refine yoB E0 fun ho=>?_;simp only[oks,ok,and_true]at ho;simp(disch:=omega) [-zAa];generalize hr:s.all sign=r;refine ak (fun k:Nat=>⟨[(0,.str s),(3,.int .i64 k)],[]⟩) (fun k=>k<=s.length/\(s.drop k).all sign=r) (fun k=>s.length-k) [] _ 0 rfl (by simp[*]) (by simp[*]) ?_
 rintro k ⟨hk,hi⟩ N hN;rcases place s k hk with⟨he,hd⟩|⟨hlt,x,hx,hd⟩<;>rw[hd]at hi<;>replace hi:=hid hi
 ·simp(disch:=omega) [-zAa,he]
  simpa using hi.out
 ·simp(disch:=omega) [-zAa,hx]
  repeat' (first|(refine BrKd.mk (fun h=>?_) (fun h=>?_)<;>simp(disch:=omega) [*])|(refine BrK.mk (fun h=>?_) (fun h=>?_)<;>simp(disch:=omega) [*]))
  all_goals first
   |(refine hN.out _<|Nx.mk (k+1) (by simp[*]) ⟨by omega,?_⟩ (by omega);simpa(disch:=omega) [*,decide_eq_true,decide_eq_false,sign]using hi.out)
   |(first|simpa(disch:=omega) [*,decide_eq_true,decide_eq_false,sign]using hi.out.symm|simpa(disch:=omega) [*,decide_eq_true,decide_eq_false,sign]using hi.out)
def scheme(s:Str):Bool:=s.all small&&(1<=s.length&&s.length<=16)
theorem qU(s:Str):Fn Tryz.prog BN [.str s] (.bool (scheme s)):=by
 refine yoB Ch fun ho=>?_;simp only[oks,ok,and_true]at ho;simp(disch:=omega) [-zAa];generalize hr:scheme s=r;refine ak (fun k:Nat=>⟨[(0,.str s),(3,.int .i64 k)],[]⟩) (fun k=>k<=s.length/\((s.drop k).all small&&(1<=s.length&&s.length<=16))=r) (fun k=>s.length-k) [] _ 0 rfl (by simp[*]) (by simp[*,<-hr,scheme]) ?_
 rintro k ⟨hk,hi⟩ N hN;rcases place s k hk with⟨he,hd⟩|⟨hlt,x,hx,hd⟩<;>rw[hd]at hi<;>replace hi:=hid hi
 ·simp(disch:=omega) [-zAa,he]
  repeat' (first|(refine BrKd.mk (fun h=>?_) (fun h=>?_)<;>simp(disch:=omega) [*])|(refine BrK.mk (fun h=>?_) (fun h=>?_)<;>simp(disch:=omega) [*]))
  all_goals (first|simpa(disch:=omega) [*,decide_eq_true,decide_eq_false,]using hi.out.symm|simpa(disch:=omega) [*,decide_eq_true,decide_eq_false,]using hi.out)
 ·simp(disch:=omega) [-zAa,hx]
  repeat' (first|(refine BrKd.mk (fun h=>?_) (fun h=>?_)<;>simp(disch:=omega) [*])|(refine BrK.mk (fun h=>?_) (fun h=>?_)<;>simp(disch:=omega) [*]))
  all_goals first
   |(refine hN.out _<|Nx.mk (k+1) (by simp[*]) ⟨by omega,?_⟩ (by omega);simpa(disch:=omega) [*,decide_eq_true,decide_eq_false,small]using hi.out)
   |(first|simpa(disch:=omega) [*,decide_eq_true,decide_eq_false,small]using hi.out.symm|simpa(disch:=omega) [*,decide_eq_true,decide_eq_false,small]using hi.out)
theorem dv{α:Type}{l:List α}{k:Nat}{x:α}(h:l[k]?=some x):l.take (k+1)=l.take k++[x]:=by rw[List.take_add_one,h];rfl
theorem take_drop{α:Type}{l:List α}{k j:Nat}{x:α}(h:l[j]?=some x)(hj:j<k):(l.take k).drop j=x::(l.take k).drop (j+1):=
 ce (by rw[zAf,if_pos hj,h])
def wordOK(sch:Bool)(x:Str):Bool:=if sch then scheme x else(x.all sign&&decide (x.length<=40))
def wordsGo(sch:Bool):List Str->List Str->Bool
 |_,[]=>true
 |pre,x::l=>wordOK sch x&&(!(hasS pre x)&&wordsGo sch (pre++[x]) l)
def words(l:List Str)(sch:Bool):Bool:=wordsGo sch [] l&&decide (l.length<=8)
theorem Gn (l:List Str) (sch:Bool):Fn Tryz.prog Ec [.seq 1 (l.map .str),.bool sch] (.bool (words l sch)):=by
 refine yoB EZ fun ho=>?_
 simp only [oks,ok,and_true] at ho
 have hlen:l.length≤140737488355328:=by have:=ho.1; simpa using this
 simp (disch:=omega) [-zAa]
 generalize hr:words l sch=r
 refine ak (fun k:Nat=>⟨[(0,.seq 1 (l.map .str)),(1,.bool sch),(5,.int .i64 k)],[]⟩) (fun k=>k≤l.length∧(wordsGo sch (l.take k) (l.drop k) && decide (l.length≤8))=r) (fun k=>l.length - k) [] _ 0 rfl (by simp [*]) (by simp [*,←hr,words]) ?_
 rintro k ⟨hk,hi⟩ N hN
 rcases place l k hk with ⟨he,hd⟩ | ⟨hlt,x,hx,hd⟩<;>rw [hd] at hi<;>replace hi:=hid hi
 · simp (disch:=omega) [-zAa,he]
   simpa [wordsGo] using hi.out
 · rcases Bool.eq_false_or_eq_true sch with hsch | hsch
   all_goals
    simp (disch:=omega) [-zAa,hx]
    repeat' (first | (refine BrKd.mk (fun h=>?_) (fun h=>?_)<;>simp (disch:=omega) [*]) | (refine BrK.mk (fun h=>?_) (fun h=>?_)<;>simp (disch:=omega) [*]) | (refine ac (qU _) rfl (fun _=>?_)<;>simp (disch:=omega) [*]) | (refine ay (qU _) rfl ?_<;>simp (disch:=omega) [*]) | (refine ac (mu _) rfl (fun _=>?_)<;>simp (disch:=omega) [*]) | (refine ay (mu _) rfl ?_<;>simp (disch:=omega) [*]))
    all_goals first
     | (first | simpa (disch:=omega) [*,decide_eq_true,decide_eq_false,wordOK,wordsGo] using hi.out.symm | simpa (disch:=omega) [*,decide_eq_true,decide_eq_false,wordOK,wordsGo] using hi.out)
     | (have hi:=hi.out; simp (disch:=omega) [wordOK,wordsGo, *,decide_eq_true,decide_eq_false] at hi; replace hi:=hid hi
        refine ak (fun j:Nat=>⟨[(0,.seq 1 (l.map .str)),(1,.bool sch),(5,.int .i64 k),(8,.int .i64 j)],[]⟩) (fun j=>j≤k∧hasS (l.take k) x=hasS ((l.take k).drop j) x) (fun j=>k - j) [] _ 0 rfl (by simp [*]) (by simp) ?_
        rintro j ⟨hj,hi2⟩ N2 hN2
        by_cases hlt2:j < k
        · obtain ⟨y,hy⟩:=aP (l:=l) (k:=j) (by omega)
          rw [take_drop hy hlt2,hasS] at hi2; replace hi2:=hid hi2
          simp (disch:=omega) [*]
          repeat' (first | (refine BrKd.mk (fun h=>?_) (fun h=>?_)<;>simp (disch:=omega) [*]) | (refine BrK.mk (fun h=>?_) (fun h=>?_)<;>simp (disch:=omega) [*]))
          all_goals first
           | (refine hN2.out _<|Nx.mk (j + 1) (by simp [*]) ⟨by omega,?_⟩ (by omega); rw [hi2.out,if_neg h])
           | (have hi2:=hi2.out; rw [if_pos h] at hi2; have hi:=hi.out; simp [hi2] at hi; simp [hi])
        · have:(l.take k).drop j=[]:=by simp; omega
          rw [this,hasS] at hi2
          have hi:=hi.out; simp [hi2] at hi; replace hi:=hid hi
          simp (disch:=omega) [*]
          refine hN.out _<|Nx.mk (k + 1) (by simp [*]) ⟨by omega,?_⟩ (by omega)
          rw [dv hx]; simpa [*] using hi.out)
def sumB:Str->Nat
 |[]=>0
 |b::s=>b.toNat+sumB s
def pool12:List Str:=[[97,42],[40,97,124,98,41,43],[91,48,45,57,93,43],[120,46,121],[91,94,97,93,42],[],[97,124,98,98,124,99]]
def pickW(sch:Bool):List Str->List Str->List Str
 |out,[]=>out
 |out,w::l=>pickW sch (if words (out++[w]) sch then out++[w]else out) l
def kind12(k:Int):Int:=1+(if k<0 then -(k+1)else k)%4
def good12(c:Constraint):Constraint:=
 let k:=kind12 c.kind
 if k=4 then⟨4,[],(pool12[sumB c.regex%7]?).getD []⟩
 else
  let ws:=if k=1 then[]else pickW (decide (k=3)) [] (c.words.take 4)
  ⟨k,if k=2/\ws=[]then[[120]]else ws,[]⟩
theorem kind12_range(k:Int):1<=kind12 k/\kind12 k<=4:=by
 unfold kind12;have h:0<=(if k<0 then -(k+1)else k):=by split<;>omega
 generalize(if k<0 then -(k+1)else k)=m at h
 omega
theorem pickW_len(sch:Bool):∀(l out:List Str),(pickW sch out l).length<=out.length+l.length
 |[],out=>by simp[pickW]
 |w::l,out=>by
   simp only[pickW];split
   ·have:=pickW_len sch l (out++[w]);simp at this⊢;omega
   ·have:=pickW_len sch l out;simp at this⊢;omega
theorem K5(c:Constraint)(hR:c.regex.length<=1125899906842624):Fn Tryz.prog I4 [c.v] (good12 c).v:=by
 refine yoB JP fun ho=>?_;simp only[oks,ok,and_true]at ho;obtain⟨kd,ws,rx⟩:=c;simp at ho hR;generalize hg:good12 ⟨kd,ws,rx⟩=g;have hrg:=kind12_range kd;have hgd:g=good12 ⟨kd,ws,rx⟩:=hg.symm;simp only[good12]at hgd;simp(disch:=omega) [-zAa];refine BrKd.mk (fun h=>?_) (fun h=>?_)
 all_goals
  first
   |(have e:1+ -(kd+1)%4=kind12 kd:=by rw[kind12,if_pos h])
   |(have e:1+kd%4=kind12 kd:=by rw[kind12,if_neg h])
  simp(disch:=omega) [-zAa];rw[e];clear e;generalize kind12 kd=q at *;refine BrKd.mk (fun hq=>?_) (fun hq=>?_)
  ·simp(disch:=omega) [-zAa]
   refine ak (fun(p:Nat×Nat)=>⟨[(1,.ptr 0 0),(2,.ptr 1 0),(4,.ptr 2 0),(5,.seq 1 (pool12.map .str)),(6,.int .i64 p.2),(7,.int .i64 p.1)],
    [some (.box [.int .i64 kd,.seq 1 (ws.map .str),.str rx]),some (.box [.int .i64 0,.nil 1,.str []]),some (.box [.int .i64 q,.nil 1,.str []])]⟩)
    (fun p=>p.1<=rx.length/\p.2<=255*p.1/\p.2+sumB (rx.drop p.1)=sumB rx) (fun p=>rx.length-p.1) [] _ (0,0) rfl (by simp[pool12]) (by simp) ?_
   rintro⟨k,n⟩ ⟨hk,hn,hi⟩ N hN;simp only at hk hn hi;rcases place rx k hk with⟨he,hd⟩|⟨hlt,x,hx,hd⟩<;>rw[hd,sumB]at hi
   ·have hm:n%7<7:=zDa _ (by decide)
    have ht:((n:Int)%7).toNat=n%7:=by omega
    obtain⟨y,hy⟩:=aP (l:=pool12) (k:=n%7) hm;have hpl:pool12.length=7:=rfl;subst hq;rw[if_pos rfl]at hgd;simp only[zDd]at hi;simp(disch:=omega) [-zAa,he,hpl,ht,hy];rw[hi]at hy;simp[hgd,hy]
   ·have hx8:=x.toNat_lt
    simp(disch:=omega) [-zAa,hx];refine hN.out _<|Nx.mk (k+1,n+x.toNat) (by simp) ⟨by simp only;omega,by simp only;omega,by simp only;omega⟩ (by simp only;omega)
  ·rw[if_neg hq]at hgd
   generalize hw:(if q=1 then[]else pickW (decide (q=3)) [] (zAc 4 ws))=w at hgd
   have hl4:(zAc 4 ws).length=min 4 ws.length:=zAe;simp(disch:=omega) [-zAa]
   refine ak (fun(p:Nat×List Str)=>⟨[(1,.ptr 0 0),(2,.ptr 1 0),(4,.ptr 2 0),(8,.int .i64 p.1)],
    [some (.box [.int .i64 kd,.seq 1 (ws.map .str),.str rx]),some (.box [.int .i64 0,.nil 1,.str []]),some (.box [.int .i64 q,.ref 3 p.2.length,.str []]),some (.arr aX 1 (p.2.map .str))]⟩)
    (fun p=>p.1<=(zAc 4 ws).length/\p.2.length<=p.1/\(if q=1 then p.2 else pickW (decide (q=3)) p.2 ((zAc 4 ws).drop p.1))=w) (fun p=>(zAc 4 ws).length-p.1) [.b 2 1 aX 1] _ (0,[]) rfl (by simp) (by simp[hw]) ?_
   rintro⟨k,out⟩ ⟨hk,hol,hi⟩ N hN;simp only at hk hol hi;by_cases hq1:q=1
   ·rw[if_pos hq1]at hi
    subst hi;simp(disch:=omega) [-zAa,hq1]
    repeat' (first|(refine BrKd.mk (fun h=>?_) (fun h=>?_)<;>simp(disch:=omega) [*])|(refine BrK.mk (fun h=>?_) (fun h=>?_)<;>simp(disch:=omega) [*]))
    all_goals first|omega|simp[hgd,hq1]
   ·rw[if_neg hq1]at hi
    rcases place (zAc 4 ws) k hk with⟨he,hd⟩|⟨hlt,x,hx,hd⟩<;>rw[hd,pickW]at hi
    ·subst hi
     clear hw;simp(disch:=omega) [-zAa]
     repeat' (first|(refine BrKd.mk (fun h=>?_) (fun h=>?_)<;>simp(disch:=omega) [*])|(refine BrK.mk (fun h=>?_) (fun h=>?_)<;>simp(disch:=omega) [*]))
     all_goals first|omega|(cases out<;>simp_all)|simp[*]
    ·have hx2:ws[k]?=some x:=by rw[zAf]at hx;simpa[show k<4 by omega]using hx
     replace hi:=hid hi;simp(disch:=omega) [-zAa,hx2,hq1];refine ac (by simpa using Gn (out++[x]) (decide (q=3))) rfl fun _=>?_
     simp(disch:=omega) [-zAa];refine BrK.mk (fun hb=>?_) (fun hb=>?_)
     ·simp(disch:=omega) [-zAa]
      refine hN.out _<|Nx.mk (k+1,out++[x]) (by simp) ⟨by simp only;omega,by simp;omega,?_⟩ (by simp only;omega)
      have hi:=hi.out;rw[if_pos hb]at hi;simpa[hq1]using hi
     ·simp(disch:=omega) [-zAa]
      refine hN.out _<|Nx.mk (k+1,out) (by simp) ⟨by simp only;omega,by simp only;omega,?_⟩ (by simp only;omega)
      have hi:=hi.out;rw[if_neg (by simp[hb])]at hi
      simpa[hq1]using hi
theorem Vo{P:Program}{d f vs us}{K:St->Prop}{σ:St}{r:V}(h:Fn P f us r)(hf:cJ (jk r)=true)(k:ok (jk r)->K (σ.put d (jk r))):kC (Cn P) d f vs us K σ:=ac (Fn.jk h) hf k
theorem Xf{l:List V}{sz:Nat}:cJ (if l=[]then V.seq sz l else V.junk)=true:=by split<;>simp[cJ, *]
theorem Xe{α:Type}{f:α->V}{l:List α}{sz:Nat}:cJ (if l=[]then V.seq sz (l.map f)else V.junk)=true:=by split<;>simp[cJ, *]
theorem HW:∀{l:List Str},dk (l.map V.str)=true
 |[]=>rfl
 |_::l=>by simp[dk,cJ,HW (l:=l)]
attribute [simp] Xf Xe HW
def DO(s:Str):Bool:=decide (s=[98,114])||(decide (s=[104,114])||(decide (s=[105,109,103])||(decide (s=[105,110,112,117,116])||decide (s=[119,98,114]))))
theorem wu(s:Str):Fn Tryz.prog Jd [.str s] (.bool (DO s)):=by
 refine yoB JZ fun ho=>?_;simp only[oks,ok,and_true]at ho;simp(disch:=omega) [-zAa,DO]
 repeat' (first|(refine BrKd.mk (fun h=>?_) (fun h=>?_)<;>simp(disch:=omega) [*])|(refine BrK.mk (fun h=>?_) (fun h=>?_)<;>simp(disch:=omega) [*]))
def raw(s:Str):Bool:=decide (s=[115,99,114,105,112,116])||decide (s=[115,116,121,108,101])
theorem zq(s:Str):Fn Tryz.prog MT [.str s] (.bool (raw s)):=by
 refine yoB Nw fun ho=>?_;simp only[oks,ok,and_true]at ho;simp(disch:=omega) [-zAa,raw]
 repeat' (first|(refine BrKd.mk (fun h=>?_) (fun h=>?_)<;>simp(disch:=omega) [*])|(refine BrK.mk (fun h=>?_) (fun h=>?_)<;>simp(disch:=omega) [*]))
def bD(o:Str):List Str:=
 if o=[112]then[[98,108,111,99,107,113,117,111,116,101],[100,105,118],[104,49],[104,50],[104,114],[108,105],[111,108],[112],[112,114,101],[116,97,98,108,101],[117,108]]
 else if o=[108,105]then[[108,105]]
 else if o=[100,116]\/o=[100,100]then[[100,100],[100,116]]
 else if o=[111,112,116,105,111,110]then[[111,112,116,105,111,110]]
 else if o=[116,100]then[[116,100],[116,114]]
 else if o=[116,114]then[[116,114]]
 else[]
def mD(o b:Str):Bool:=hasS (bD o) b
theorem qV(o b:Str):Fn Tryz.prog BQ [.str o,.str b] (.bool (mD o b)):=by
 refine yoB Cm fun ho=>?_;simp only[oks,ok,and_true]at ho;simp(disch:=omega) [-zAa];generalize hr:mD o b=r;have hlen:(bD o).length<=11:=by unfold bD;repeat' (split<;>try simp)
 repeat' (first|(refine BrKd.mk (fun h=>?_) (fun h=>?_)<;>simp(disch:=omega) [*])|(refine BrK.mk (fun h=>?_) (fun h=>?_)<;>simp(disch:=omega) [*]))
 all_goals
  by_cases hc:bD o=[]
  ·refine ak (fun k:Nat=>⟨[(1,.str b),(5,.nil 1),(6,.int .i64 0)],[]⟩) (fun k=>k=0) (fun k=>0-k) [] _ 0 rfl (by revert hc;simp[*,bD]) rfl ?_
   rintro k rfl N hN;simp[<-hr,mD,hc,hasS]
  refine ak (fun k:Nat=>⟨[(1,.str b),(5,.seq 1 ((bD o).map .str)),(6,.int .i64 k)],[]⟩) (fun k=>k<=(bD o).length/\hasS ((bD o).drop k) b=r) (fun k=>(bD o).length-k) [] _ 0 rfl (by revert hc;simp[*,bD]) (by simp[<-hr,mD]) ?_
  clear hr hc;generalize bD o=l at *;rintro k ⟨hk,hi⟩ N hN;rcases place l k hk with⟨he,hd⟩|⟨hlt,x,hx,hd⟩<;>rw[hd]at hi<;>replace hi:=hid hi
  ·simp(disch:=omega) [-zAa,he]
   simpa[hasS]using hi.out
  ·simp(disch:=omega) [-zAa,hx]
   repeat' (first|(refine BrKd.mk (fun h=>?_) (fun h=>?_)<;>simp(disch:=omega) [*])|(refine BrK.mk (fun h=>?_) (fun h=>?_)<;>simp(disch:=omega) [*]))
   all_goals first
    |(refine hN.out _<|Nx.mk (k+1) (by simp[*]) ⟨by omega,?_⟩ (by omega);simpa(disch:=omega) [*,decide_eq_true,decide_eq_false,hasS]using hi.out)
    |(first|simpa(disch:=omega) [*,decide_eq_true,decide_eq_false,hasS]using hi.out.symm|simpa(disch:=omega) [*,decide_eq_true,decide_eq_false,hasS]using hi.out)
def Hu:List Str->List Str->Bool
 |_,[]=>true
 |pre,x::l=>!hasS pre x&&Hu (pre++[x]) l
def Tj(l:List Str):Bool:=Hu [] l
theorem KW(l:List Str):Fn Tryz.prog IX [.seq 1 (l.map .str)] (.bool (Tj l)):=by
 refine yoB JI fun ho=>?_;simp only[oks,ok,and_true]at ho;have hlen:l.length<=140737488355328:=by have:=ho.1;simpa using this
 simp(disch:=omega) [-zAa];generalize hr:Tj l=r;refine ak (fun k:Nat=>⟨[(0,.seq 1 (l.map .str)),(3,.int .i64 k)],[]⟩) (fun k=>k<=l.length/\Hu (l.take k) (l.drop k)=r) (fun k=>l.length-k) [] _ 0 rfl (by simp[*]) (by simp[*,<-hr,Tj]) ?_
 rintro k ⟨hk,hi⟩ N hN;rcases place l k hk with⟨he,hd⟩|⟨hlt,x,hx,hd⟩<;>rw[hd]at hi<;>replace hi:=hid hi
 ·simp(disch:=omega) [-zAa,he]
  simpa[Hu]using hi.out
 ·simp(disch:=omega) [-zAa,hx]
  refine ay (by simpa[List.map_take]using ja (l.take k) x) rfl ?_
  simp(disch:=omega) [-zAa];refine BrK.mk (fun h=>?_) (fun h=>?_)
  ·simp(disch:=omega) [-zAa]
   have hi:=hi.out;simpa[Hu,h]using hi
  ·simp(disch:=omega) [-zAa]
   refine hN.out _<|Nx.mk (k+1) (by simp[*]) ⟨by omega,?_⟩ (by omega)
   have hi:=hi.out;simp[Hu,h]at hi;rw[dv hx];exact hi
def k7:Str:=[35,116,101,120,116]
def dG:Str:=[35,99,111,109,109,101,110,116]
def sY(p:Policy)(par x:Str):Bool:=!(DO par||(raw par&& !decide (x=k7)))&&((decide (x=k7)||decide (x=dG))||((aT p.elements x).isSome&& !mD par x))
def kids(p:Policy)(par:Str)(l:List Str):Bool:=l.all (sY p par)&&Tj l
theorem KX(p:Policy)(par:Str)(l:List Str):Fn Tryz.prog IY [p.v,.str par,.seq 1 (l.map .str)] (.bool (kids p par l)):=by
 refine yoB JJ fun ho=>?_;simp only[oks,ok,and_true]at ho;have hlen:l.length<=140737488355328:=by have:=ho.2.2.1;simpa using this
 simp(disch:=omega) [-zAa];refine ac (wu _) rfl fun _=>?_;simp(disch:=omega) [-zAa];refine ac (zq _) rfl fun _=>?_;simp(disch:=omega) [-zAa];generalize hr:kids p par l=r;refine ak (fun k:Nat=>⟨[(1,.str par),(2,.seq 1 (l.map .str)),(3,.ptr 0 0),(7,.bool (DO par)),(8,.bool (raw par)),(9,.int .i64 k)],[some (.box [.seq 1 (p.top.map .str),.seq 3 (p.elements.map Allowed.v),.seq 1 (p.unwrap.map .str)])]⟩) (fun k=>k<=l.length/\((l.drop k).all (sY p par)&&Tj l)=r) (fun k=>l.length-k) [] _ 0 rfl (by simp[*]) (by simp[*,<-hr,kids]) ?_
 rintro k ⟨hk,hi⟩ N hN;rcases place l k hk with⟨he,hd⟩|⟨hlt,x,hx,hd⟩<;>rw[hd]at hi<;>replace hi:=hid hi
 ·simp(disch:=omega) [-zAa,he]
  refine ac (KW _) rfl fun _=>?_;have hi:=hi.out;simp at hi;simp(disch:=omega) [-zAa,hi]
 ·simp only[zBb]at hi
  have hfin:sY p par x=false->r=false:=fun h=>by have hi:=hi.out;rw[h]at hi;simpa using hi.symm
  have hgo:sY p par x=true->((l.drop (k+1)).all (sY p par)&&Tj l)=r:=fun h=>by have hi:=hi.out;rw[h]at hi;simpa using hi
  replace hfin:=hid hfin;replace hgo:=hid hgo;simp(disch:=omega) [-zAa,hx]
  repeat' (first
   |(refine BrKd.mk (fun h=>?_) (fun h=>?_)<;>simp(disch:=omega) [*])
   |(refine BrK.mk (fun h=>?_) (fun h=>?_)<;>simp(disch:=omega) [*])
   |(refine ay (Fn.jk (kh p x)) (by simp) ?_<;>simp(disch:=omega) [*])
   |(refine ac (qV par x) rfl (fun _=>?_)<;>simp(disch:=omega) [*]))
  all_goals
   cases hf:aT p.elements x
   all_goals
    first
    |(exfalso;simp_all;done)
    |(refine hN.out _<|Nx.mk (k+1) (by simp[*]) ⟨by omega,hgo.out ?_⟩ (by omega);simp_all[sY,k7,dG];done)
    |(rw[hfin.out ?_];simp_all[sY,k7,dG];done)
    |(refine(hfin.out ?_).symm;simp_all[sY,k7,dG];done)
    |(refine(hfin.out ?_);simp_all[sY,k7,dG];done)
def ta(p:Policy)(par:Str):List Str->List Str->List Str
 |out,[]=>out
 |out,x::l=>ta p par (if kids p par (out++[x])then out++[x]else out) l
def iF(p:Policy)(par:Str)(l:List Str):List Str:=ta p par [] (l.take 8)
theorem yg(p:Policy)(par:Str):∀(l out:List Str),(ta p par out l).length<=out.length+l.length
 |[],out=>by simp[ta]
 |w::l,out=>by
   simp only[ta];split
   ·have:=yg p par l (out++[w]);simp at this⊢;omega
   ·have:=yg p par l out;simp at this⊢;omega
theorem zo(p:Policy)(par:Str)(l:List Str):(iF p par l).length<=8:=by
 have:=yg p par (l.take 8) [];simp at this;simp only[iF];omega
theorem pd(p:Policy)(par:Str)(l:List Str):FnN Tryz.prog Ad [p.v,.str par,.seq 1 (l.map .str)] (.seq 1 ((iF p par l).map .str)):=by
 refine FnN.of_image mixed Am.1 Am.2 rfl fun ho=>?_;have hlen:l.length<=140737488355328:=by have:=ho.2.2.1.1;simpa using this
 simp(disch:=omega) [-zAa];generalize hw:iF p par l=w;have hl8:(zAc 8 l).length=min 8 l.length:=zAe
 refine ak (fun(q:Nat×List Str)=>⟨[(1,.str par),(2,.seq 1 (l.map .str)),(3,.ptr 0 0),(7,.ref 1 q.2.length),(8,.int .i64 q.1)],
  [some (.box [.seq 1 (p.top.map .str),.seq 3 (p.elements.map Allowed.v),.seq 1 (p.unwrap.map .str)]),some (.arr aX 1 (q.2.map .str))]⟩)
  (fun q=>q.1<=(zAc 8 l).length/\q.2.length<=q.1/\ta p par q.2 ((zAc 8 l).drop q.1)=w) (fun q=>(zAc 8 l).length-q.1) [.r 7 aX 1] _ (0,[]) rfl (by simp) (by simp[<-hw,iF]) ?_
 rintro⟨k,out⟩ ⟨hk,hol,hi⟩ N hN;simp only at hk hol hi;rcases place (zAc 8 l) k hk with⟨he,hd⟩|⟨hlt,x,hx,hd⟩<;>rw[hd,ta]at hi
 ·subst hi
  simp(disch:=omega) [-zAa]
  repeat' (first|(refine BrKd.mk (fun h=>?_) (fun h=>?_)<;>simp(disch:=omega) [*])|(refine BrK.mk (fun h=>?_) (fun h=>?_)<;>simp(disch:=omega) [*]))
  all_goals first|omega|simp[*]
 ·have hx2:l[k]?=some x:=by rw[zAf]at hx;simpa[show k<8 by omega]using hx
  replace hi:=hid hi;simp(disch:=omega) [-zAa,hx2];refine ac (by simpa using KX p par (out++[x])) rfl fun _=>?_
  simp(disch:=omega) [-zAa];refine BrK.mk (fun hb=>?_) (fun hb=>?_)
  ·simp(disch:=omega) [-zAa]
   refine hN.out _<|Nx.mk (k+1,out++[x]) (by simp) ⟨by simp only;omega,by simp;omega,?_⟩ (by simp only;omega)
   have hi:=hi.out;rw[if_pos hb]at hi;simpa using hi
  ·simp(disch:=omega) [-zAa]
   refine hN.out _<|Nx.mk (k+1,out) (by simp) ⟨by simp only;omega,by simp only;omega,?_⟩ (by simp only;omega)
   have hi:=hi.out;rw[if_neg (by simp[hb])]at hi
   simpa using hi
end Go.Abs.F
end
section
namespace Go.Abs.F
open Go.Proofs
attribute [-simp] getElem?_pos zCg
def RX:List Str:=[[105,100],[104,114,101,102],[100,97,116,97,45,42]]
def i7(i:Nat)(r:Rule):Rule:=
 if plain (eZ r.name).1 then⟨r.name,good12 r.value,!(eZ r.name).2&&r.req⟩
 else⟨(RX[i]?).getD [],good12 r.value,!decide (i=2)&&r.req⟩
def iC:Nat->List Rule->List Rule->List Rule
 |_,out,[]=>out
 |i,out,r::l=>iC (i+1) (if hasS (out.map Rule.name) (i7 i r).name then out else out++[i7 i r]) l
def j6(l:List Rule):List Rule:=iC 0 [] (l.take 3)
theorem p3:∀(l out:List Rule)(i:Nat),(iC i out l).length<=out.length+l.length
 |[],out,i=>by simp[iC]
 |w::l,out,i=>by
   simp only[iC];split
   ·have:=p3 l out (i+1);simp at this⊢;omega
   ·have:=p3 l (out++[i7 i w]) (i+1);simp at this⊢;omega
theorem Mf(l:List Rule):(j6 l).length<=3:=by
 have:=p3 (l.take 3) [] 0;simp at this;simp only[j6];omega
theorem Gm(l:List Rule)(hR:∀r∈l,r.value.regex.length<=1125899906842624):Fn Tryz.prog Ea [.seq 5 (l.map Rule.v)] (.seq 5 ((j6 l).map Rule.v)):=by
 refine yoB EX fun ho=>?_;simp only[oks,ok,and_true]at ho;have hlen:l.length<=140737488355328:=by have:=ho.1;simpa using this
 clear ho;simp(disch:=omega) [-zAa];generalize hw:j6 l=w;have hl3:(zAc 3 l).length=min 3 l.length:=zAe
 refine ak (fun(q:Nat×List Rule)=>⟨[(0,.seq 5 (l.map Rule.v)),(3,.ref 0 q.2.length),(4,.ref 1 q.2.length),(5,.int .i64 q.1)],
  [some (.arr eF 5 (q.2.map Rule.v)),some (.arr aX 1 ((q.2.map Rule.name).map .str))]⟩)
  (fun q=>q.1<=(zAc 3 l).length/\q.2.length<=q.1/\iC q.1 q.2 ((zAc 3 l).drop q.1)=w) (fun q=>(zAc 3 l).length-q.1) [.r 3 eF 5,.r 4 aX 1] _ (0,[]) rfl (by simp) (by simp[<-hw,j6]) ?_
 rintro⟨k,out⟩ ⟨hk,hol,hi⟩ N hN;simp only at hk hol hi;rcases place (zAc 3 l) k hk with⟨he,hd⟩|⟨hlt,x,hx,hd⟩<;>rw[hd,iC]at hi
 ·subst hi
  clear hw;simp(disch:=omega) [-zAa]
  repeat' (first|(refine BrKd.mk (fun h=>?_) (fun h=>?_)<;>simp(disch:=omega) [*])|(refine BrK.mk (fun h=>?_) (fun h=>?_)<;>simp(disch:=omega) [*]))
  all_goals first|omega|simp[*]
 ·have hx2:l[k]?=some x:=by rw[zAf]at hx;simpa[show k<3 by omega]using hx
  have hRx:=hR x (zAb hx2);replace hi:=hid hi;simp(disch:=omega) [-zAa,hx2];refine b7 (K5 x.value hRx) (by simp) ?_
  simp(disch:=omega) [-zAa,hx2];refine ac (wn _) rfl fun _=>?_;simp(disch:=omega) [-zAa,hx2];refine ac (iG _) rfl fun _=>?_;have hk3:k<3:=by omega
  obtain⟨pn,hpn⟩:∃pn,RX[k]?=some pn:=aP (l:=RX) (k:=k) (by simpa[RX]using hk3)
  have hpn2:([.str [105,100],.str [104,114,101,102],.str [100,97,116,97,45,42]]:List V)[k]?=some (.str pn):=by
   have:(RX.map V.str)[k]?=some (.str pn):=by rw[zBi,hpn];rfl
   exact this
  have fin:∀g:Rule,i7 k x=g->∀τ:St,τ.nrm [0,3,4,5]=⟨[(0,.seq 5 (l.map Rule.v)),(3,.ref 0 (if hasS (out.map Rule.name) g.name then out else out++[g]).length),(4,.ref 1 (if hasS (out.map Rule.name) g.name then out else out++[g]).length),(5,.int .i64 ((k+1:Nat):Int))],
   [some (.arr eF 5 ((if hasS (out.map Rule.name) g.name then out else out++[g]).map Rule.v)),some (.arr aX 1 (((if hasS (out.map Rule.name) g.name then out else out++[g]).map Rule.name).map .str))]⟩->N τ:=by
   intro g hg τ hτ;have hi:=hi.out;rw[hg]at hi;refine hN.out _<|Nx.mk (k+1,if hasS (out.map Rule.name) g.name then out else out++[g]) hτ ⟨by simp only;omega,?_,hi⟩ (by simp only;omega)
   split<;>simp<;>omega
  simp(disch:=omega) [-zAa,hx2];refine BrK.mk (fun hb=>?_) (fun hb=>?_)
  ·simp(disch:=omega) [-zAa,hx2]
   refine BrK.mk (fun hm=>?_) (fun hm=>?_)
   all_goals
    simp(disch:=omega) [-zAa,hm,hx2];refine ac (by simpa using ja (out.map Rule.name) x.name) rfl fun _=>?_
    simp(disch:=omega) [-zAa,hx2];refine BrK.mk (fun hh=>?_) (fun hh=>?_)
    all_goals
     simp(disch:=omega) [-zAa,hh,hx2];refine fin _ (by simp only[i7,hb,if_true,hm,Bool.not_true,Bool.not_false,Bool.true_and,zDb];rfl) _ ?_
     simp[hh]
  ·simp(disch:=omega) [-zAa,hpn2,hx2]
   have hb':i7 k x=⟨pn,good12 x.value,!decide (k=2)&&x.req⟩:=by simp[i7,hb,hpn]
   refine BrKd.mk (fun hm=>?_) (fun hm=>?_)
   all_goals
    simp(disch:=omega) [-zAa,hm,hx2];refine ac (by simpa using ja (out.map Rule.name) pn) rfl fun _=>?_
    simp(disch:=omega) [-zAa,hx2];refine BrK.mk (fun hh=>?_) (fun hh=>?_)
    all_goals
     simp(disch:=omega) [-zAa,hh,hx2];refine fin _ hb' _ ?_;simp[hh,hm]
def RY:List Str:=[[97],[98],[112],[98,114],[115,116,121,108,101]]
def uY(i:Nat)(s:Str):Str:=if plain s then s else(RY[i]?).getD []
def l8:Nat->List Allowed->List Allowed->List Allowed
 |_,out,[]=>out
 |i,out,e::l=>l8 (i+1) (if(aT out (uY i e.name)).isSome then out else out++[⟨uY i e.name,[],j6 e.rules⟩]) l
theorem r6:∀(l out:List Allowed)(i:Nat),(l8 i out l).length<=out.length+l.length
 |[],out,i=>by simp[l8]
 |w::l,out,i=>by
   simp only[l8];split
   ·have:=r6 l out (i+1);simp at this⊢;omega
   ·have:=r6 l (out++[⟨uY i w.name,[],j6 w.rules⟩]) (i+1);simp at this⊢;omega
def fQ(els:List Allowed)(k:Nat)(own:List Str):List Allowed:=
 match els[k]? with
 |some e=>els.set k ⟨e.name,iF ⟨[],els,[]⟩ e.name own,e.rules⟩
 |none=>els
def fW:Nat->List Allowed->List Allowed->List Allowed
 |_,els,[]=>els
 |k,els,e::l=>fW (k+1) (fQ els k e.kids) l
theorem L5(els:List Allowed)(k:Nat)(own:List Str):(fQ els k own).length=els.length:=by
 unfold fQ;split<;>simp
def Bc:List Str->List Str->List Str
 |out,[]=>out
 |out,x::l=>Bc (if plain x&& !hasS out x then out++[x]else out) l
def bE(p:Policy):Policy:=
 let a:=l8 0 [] (p.elements.take 5)
 let b:=fW 0 a (p.elements.take a.length)
 ⟨iF ⟨[],b,[]⟩ [] p.top,b,Bc [] (p.unwrap.take 4)⟩
theorem K0(p:Policy)(hR:∀e∈p.elements,∀r∈e.rules,r.value.regex.length<=1125899906842624):Fn Tryz.prog I1 [p.v] (bE p).v:=by
 refine yoB JM fun ho=>?_;simp only[oks,ok,and_true]at ho;have hlt:p.top.length<=140737488355328:=by have:=ho;simp at this;exact this.1.1
 have hle:p.elements.length<=140737488355328:=by have:=ho;simp at this;exact this.2.1.1
 have hlu:p.unwrap.length<=140737488355328:=by have:=ho;simp at this;exact this.2.2.1
 clear ho;simp(disch:=omega) [-zAa];generalize hg:bE p=g;have hgd:g=bE p:=hg.symm;simp only[bE]at hgd;have hl5:(zAc 5 p.elements).length=min 5 p.elements.length:=zAe;have hal:=r6 (p.elements.take 5) [] 0;generalize ha:l8 0 [] (p.elements.take 5)=els at hgd hal
 refine ak (fun(q:Nat×List Allowed)=>⟨[(1,.ptr 0 0),(2,.ptr 1 0),(3,.ptr 2 0),(4,.int .i64 q.1)],
  [some (.box [.seq 1 (p.top.map .str),.seq 3 (p.elements.map Allowed.v),.seq 1 (p.unwrap.map .str)]),some (.box [.nil 1,.nil 3,.nil 1]),some (.box [.nil 1,.ref 3 q.2.length,.nil 1]),some (.arr b9 3 (q.2.map Allowed.v))]⟩)
  (fun q=>q.1<=(zAc 5 p.elements).length/\q.2.length<=q.1/\l8 q.1 q.2 ((zAc 5 p.elements).drop q.1)=els) (fun q=>(zAc 5 p.elements).length-q.1) [.b 2 1 b9 3] _ (0,[]) rfl (by simp) (by simp[<-ha]) ?_
 rintro⟨k,out⟩ ⟨hk,hol,hi⟩ N hN;simp only at hk hol hi;rcases place (zAc 5 p.elements) k hk with⟨he,hd⟩|⟨hlt,x,hx,hd⟩<;>rw[hd,l8]at hi
 ·subst hi
  have hol5:out.length<=p.elements.length/\out.length<=5:=by simp only[zBc]at hal;omega
  have hkk:(k<p.elements.length/\k=5)\/k=p.elements.length:=by omega
  clear hd hN hol hk he hal ha;generalize hb:fW 0 out (p.elements.take out.length)=bs at hgd;rcases hkk with hkk|hkk
  all_goals
   simp(disch:=omega) [-zAa,hkk]
   refine ak (fun(q:Nat×List Allowed)=>⟨[(1,.ptr 0 0),(2,.ptr 1 0),(3,.ptr 2 0),(10,.int .i64 q.1)],
    [some (.box [.seq 1 (p.top.map .str),.seq 3 (p.elements.map Allowed.v),.seq 1 (p.unwrap.map .str)]),some (.box [.nil 1,.nil 3,.nil 1]),some (.box [.nil 1,.ref 3 q.2.length,.nil 1]),some (.arr b9 3 (q.2.map Allowed.v))]⟩)
    (fun q=>q.1<=(p.elements.take out.length).length/\q.2.length=out.length/\fW q.1 q.2 ((p.elements.take out.length).drop q.1)=bs) (fun q=>(p.elements.take out.length).length-q.1) [] _ (0,out) rfl (by simp) (by simp[<-hb]) ?_
   have hlo:(p.elements.take out.length).length=out.length:=by rw[zAe];omega
   rintro⟨k,els⟩ ⟨hk,hol,hi⟩ N hN;simp only at hk hol hi;rcases place (p.elements.take out.length) k hk with⟨he,hd⟩|⟨hlt,x,hx,hd⟩<;>rw[hd,fW]at hi
   ·subst hi
    simp(disch:=omega) [-zAa,he];refine kx (by simpa using pd ⟨[],els,[]⟩ [] p.top) fun hok=>?_
    simp(disch:=omega) [-zAa];generalize hu:Bc [] (p.unwrap.take 4)=us at hgd;have hl4:(zAc 4 p.unwrap).length=min 4 p.unwrap.length:=zAe;clear hN
    refine ak (fun(q:Nat×List Str)=>⟨[(1,.ptr 0 0),(2,.ptr 1 0),(3,.ptr 2 0),(12,.int .i64 q.1)],
     [some (.box [.seq 1 (p.top.map .str),.seq 3 (p.elements.map Allowed.v),.seq 1 (p.unwrap.map .str)]),some (.box [.nil 1,.nil 3,.nil 1]),some (.box [.seq 1 ((iF ⟨[],els,[]⟩ [] p.top).map .str),.ref 3 els.length,.ref 4 q.2.length]),some (.arr b9 3 (els.map Allowed.v)),some (.arr aX 1 (q.2.map .str))]⟩)
     (fun q=>q.1<=(zAc 4 p.unwrap).length/\q.2.length<=q.1/\Bc q.2 ((zAc 4 p.unwrap).drop q.1)=us) (fun q=>(zAc 4 p.unwrap).length-q.1) [.b 2 2 aX 1] _ (0,[]) rfl (by simp) (by simp[<-hu]) ?_
    rintro⟨j,uw⟩ ⟨hj,hul,hi⟩ N hN;simp only at hj hul hi;rcases place (zAc 4 p.unwrap) j hj with⟨he2,hd2⟩|⟨hlt2,y,hy,hd2⟩<;>rw[hd2,Bc]at hi
    ·subst hi
     have hjj:(j<p.unwrap.length/\j=4)\/j=p.unwrap.length:=by omega
     rcases hjj with hjj|hjj
     all_goals
      simp(disch:=omega) [-zAa,hjj];simp[hgd]
    ·have hy2:p.unwrap[j]?=some y:=by rw[zAf]at hy;simpa[show j<4 by omega]using hy
     replace hi:=hid hi;simp(disch:=omega) [-zAa,hy2];refine ac (iG _) rfl fun _=>?_;simp(disch:=omega) [-zAa,hy2];refine ay (by simpa using ja uw y) rfl ?_
     simp(disch:=omega) [-zAa,hy2];have yes:plain y=true->hasS uw y=false->Bc (uw++[y]) ((zAc 4 p.unwrap).drop (j+1))=us:=fun h h'=>by have hi:=hi.out;simpa[h,h']using hi
     have no:(plain y&& !hasS uw y)=false->Bc uw ((zAc 4 p.unwrap).drop (j+1))=us:=fun h=>by have hi:=hi.out;rw[if_neg (by simp[h])]at hi;exact hi
     replace yes:=hid yes;replace no:=hid no;refine BrK.mk (fun h1=>?_) (fun h1=>?_)
     ·simp(disch:=omega) [-zAa,h1]
      refine BrK.mk (fun h2=>?_) (fun h2=>?_)
      ·simp(disch:=omega) [-zAa,h1,h2]
       refine hN.out _<|Nx.mk (j+1,uw) (by simp) ⟨by simp only;omega,by simp only;omega,no.out (by simp[h2])⟩ (by simp only;omega)
      ·simp(disch:=omega) [-zAa,h1,h2,hy2]
       refine hN.out _<|Nx.mk (j+1,uw++[y]) (by simp) ⟨by simp only;omega,by simp;omega,yes.out h1 h2⟩ (by simp only;omega)
     ·simp(disch:=omega) [-zAa,h1]
      refine hN.out _<|Nx.mk (j+1,uw) (by simp) ⟨by simp only;omega,by simp only;omega,no.out (by simp[h1])⟩ (by simp only;omega)
   ·have hx2:p.elements[k]?=some x:=by rw[zAf]at hx;simpa[show k<out.length by omega]using hx
    obtain⟨e,hex⟩:=aP (l:=els) (k:=k) (by omega)
    replace hi:=hid hi;simp(disch:=omega) [-zAa,hx2,hex];refine ue (by simpa using pd ⟨[],els,[]⟩ e.name x.kids) ?_
    simp(disch:=omega) [-zAa,hx2,hex];have hi:=hi.out;have hsk:fQ els k x.kids=els.set k ⟨e.name,iF ⟨[],els,[]⟩ e.name x.kids,e.rules⟩:=by simp[fQ,hex]
    rw[hsk]at hi;refine hN.out _<|Nx.mk (k+1,els.set k ⟨e.name,iF ⟨[],els,[]⟩ e.name x.kids,e.rules⟩) (by simp[zDe]) ⟨by simp only;omega,by simp;omega,hi⟩ (by simp only;omega)
 ·have hx2:p.elements[k]?=some x:=by rw[zAf]at hx;simpa[show k<5 by omega]using hx
  have hRx:=hR x (zAb hx2);obtain⟨pn,hpn⟩:∃pn,RY[k]?=some pn:=aP (l:=RY) (k:=k) (by simp only[RY,zAd,zBc];omega)
  have hpn2:([.str [97],.str [98],.str [112],.str [98,114],.str [115,116,121,108,101]]:List V)[k]?=some (.str pn):=by
   have:(RY.map V.str)[k]?=some (.str pn):=by rw[zBi,hpn];rfl
   exact this
  replace hi:=hid hi;simp(disch:=omega) [-zAa,hx2];refine ac (iG _) rfl fun _=>?_;simp(disch:=omega) [-zAa,hx2];refine BrK.mk (fun hb=>?_) (fun hb=>?_)
  all_goals
   first
    |(have hnm:uY k x.name=x.name:=by rw[uY,if_pos hb])
    |(have hnm:uY k x.name=pn:=by rw[uY,if_neg (by simp[hb]),hpn];rfl)
   have hi:=hi.out;rw[hnm]at hi;replace hi:=hid hi;simp(disch:=omega) [-zAa,hx2,hpn2];refine Vo (by simpa using kh ⟨[],out,[]⟩ _) (by simp) fun _=>?_
   simp(disch:=omega) [-zAa,hx2];refine BrK.mk (fun hf=>?_) (fun hf=>?_)
   ·simp(disch:=omega) [-zAa,hx2]
    have hi:=hi.out;rw[if_pos hf]at hi;refine hN.out _<|Nx.mk (k+1,out) (by simp) ⟨by simp only;omega,by simp only;omega,hi⟩ (by simp only;omega)
   ·simp(disch:=omega) [-zAa,hx2]
    have hi:=hi.out;rw[if_neg (by simp[hf])]at hi
    refine b7 (Gm x.rules hRx) (by simp) ?_
    simp(disch:=omega) [-zAa,hx2];refine hN.out _<|Nx.mk (k+1,out++[⟨_,[],j6 x.rules⟩]) (by simp) ⟨by simp only;omega,by simp;omega,hi⟩ (by simp only;omega)
def fdx{α:Type}(f:α->Bool):Nat->List α->Int
 |_,[]=>-1
 |k,x::l=>if f x then k else fdx f (k+1) l
theorem Si{α:Type}(f:α->Bool):∀(l:List α)(k:Nat),decide (0<=fdx f k l)=l.any f
 |[],k=>by simp[fdx]
 |x::l,k=>by
   simp only[fdx,zDc];split
   ·rename_i h;simp[h]
   ·rename_i h;simp only[zCj]at h;rw[Si f l (k+1),h];rfl
theorem O4(s:Str):∀l:List Str,l.any (fun x=>decide (s=x))=hasS l s
 |[]=>rfl
 |x::l=>by
   simp only[zDc,hasS,O4 s l];by_cases h:x=s
   ·simp[h]
   ·have:¬s=x:=fun e=>h e.symm
    simp[h,this]
theorem pN(l:List Str)(s:Str):Fn Tryz.prog dM [.seq 1 (l.map .str),.str s] (.int .i64 (fdx (fun x=>decide (s=x)) 0 l)):=by
 refine yoB dN fun ho=>?_;simp only[oks,ok,and_true]at ho;have hlen:l.length<=140737488355328:=by have:=ho.1.1;simpa using this
 clear ho;simp(disch:=omega) [-zAa];generalize hr:fdx (fun x=>decide (s=x)) 0 l=r;refine ak (fun k:Nat=>⟨[(0,.seq 1 (l.map .str)),(1,.str s),(7,.int .i64 l.length),(8,.int .i64 k)],[]⟩) (fun k=>k<=l.length/\fdx (fun x=>decide (s=x)) k (l.drop k)=r) (fun k=>l.length-k) [] _ 0 rfl (by simp[*]) (by simp[*]) ?_
 rintro k ⟨hk,hi⟩ N hN;rcases place l k hk with⟨he,hd⟩|⟨hlt,x,hx,hd⟩<;>rw[hd]at hi<;>replace hi:=hid hi
 ·simp(disch:=omega) [-zAa,he]
  simpa[fdx]using hi.out
 ·simp(disch:=omega) [-zAa,hx]
  refine BrKd.mk (fun h=>?_) (fun h=>?_)
  ·simp(disch:=omega) [-zAa]
   have hi:=hi.out;simpa[fdx,h]using hi
  ·simp(disch:=omega) [-zAa]
   refine hN.out _<|Nx.mk (k+1) (by simp[*]) ⟨by omega,?_⟩ (by omega)
   have hi:=hi.out;simpa[fdx,h]using hi
theorem f_slices_Contains_string(l:List Str)(s:Str):Fn Tryz.prog cW [.seq 1 (l.map .str),.str s] (.bool (hasS l s)):=by
 refine yoB c5 fun ho=>?_;simp only[oks,ok,and_true]at ho;simp(disch:=omega) [-zAa];refine ac (pN _ _) rfl fun _=>?_;simp(disch:=omega) [-zAa];rw[Si,O4]
def fK(s p:Str):Bool:=decide (p.length<=s.length)&&decide (s.take p.length=p)
theorem gg(s p:Str):Fn Tryz.prog cX [.str s,.str p] (.bool (fK s p)):=by
 refine yoB c6 fun ho=>?_;simp only[oks,ok,and_true]at ho;simp(disch:=omega) [-zAa,fK]
 repeat' (first|(refine BrKd.mk (fun h=>?_) (fun h=>?_)<;>simp(disch:=omega) [*])|(refine BrK.mk (fun h=>?_) (fun h=>?_)<;>simp(disch:=omega) [*]))
theorem jW(s p:Str):Fn Tryz.prog jL [.str s,.str p] (.bool (fK s p)):=by
 refine yoB jP fun ho=>?_;simp only[oks,ok,and_true]at ho;simp(disch:=omega) [-zAa]
 repeat' (first|(refine BrKd.mk (fun h=>?_) (fun h=>?_)<;>simp(disch:=omega) [*])|(refine BrK.mk (fun h=>?_) (fun h=>?_)<;>simp(disch:=omega) [*])|(refine ac (gg _ _) rfl (fun _=>?_)<;>simp(disch:=omega) [*])|(refine ay (gg _ _) rfl ?_<;>simp(disch:=omega) [*]))
theorem f_lang_isValue(s:Str):Fn Tryz.prog BT [.str s] (.bool (s.all sign)):=by
 refine yoB Cs fun ho=>?_;simp only[oks,ok,and_true]at ho;simp(disch:=omega) [-zAa];generalize hr:s.all sign=r;refine ak (fun k:Nat=>⟨[(0,.str s),(3,.int .i64 k)],[]⟩) (fun k=>k<=s.length/\(s.drop k).all sign=r) (fun k=>s.length-k) [] _ 0 rfl (by simp[*]) (by simp[*]) ?_
 rintro k ⟨hk,hi⟩ N hN;rcases place s k hk with⟨he,hd⟩|⟨hlt,x,hx,hd⟩<;>rw[hd]at hi<;>replace hi:=hid hi
 ·simp(disch:=omega) [-zAa,he]
  simpa using hi.out
 ·simp(disch:=omega) [-zAa,hx]
  repeat' (first|(refine BrKd.mk (fun h=>?_) (fun h=>?_)<;>simp(disch:=omega) [*])|(refine BrK.mk (fun h=>?_) (fun h=>?_)<;>simp(disch:=omega) [*]))
  all_goals first
   |(refine hN.out _<|Nx.mk (k+1) (by simp[*]) ⟨by omega,?_⟩ (by omega);simpa(disch:=omega) [*,decide_eq_true,decide_eq_false,sign]using hi.out)
   |(first|simpa(disch:=omega) [*,decide_eq_true,decide_eq_false,sign]using hi.out.symm|simpa(disch:=omega) [*,decide_eq_true,decide_eq_false,sign]using hi.out)
theorem dV(c:UInt8):∀s:Str,Lib.indexByte s c<(s.length:Int)+1/\(0<=Lib.indexByte s c->Lib.indexByte s c<s.length)
 |[]=>by simp[Lib.indexByte]
 |b::l=>by
   have:=dV c l;unfold Lib.indexByte;simp only[zAd];split
   ·omega
   ·split
    ·omega
    ·omega
theorem f_bytealg_IndexByteString(s:Str)(c:UInt8):Fn Tryz.prog bA [.str s,.int .u8 c.toNat] (.int .i64 (Lib.indexByte s c)):=by
 refine Fn.ext Tryz.func174 (by kernel_rfl) (by kernel_rfl) (by kernel_rfl) (e:=Extern.BytealgIndexByte.indexByte) (by kernel_rfl) ?_
 intro M w cs hM hus;obtain⟨cl⟩:=cs;simp only[ae]at hus;obtain⟨_,_,rfl,⟨bs,rfl,rfl,_⟩,_,_,rfl,⟨rfl,_⟩,rfl⟩:=hus;refine⟨_,Lib.run_indexByteString bs (c.toNat:Int) w,?_⟩;have hc:((c.toNat:Int)).toNat.toUInt8=c:=by simp
 rw[hc];simp only[rep];have h1:=Lib.indexByte_ge bs.data.toList c;have h2:=dV c bs.data.toList;refine⟨trivial,?_,?_⟩
 ·simp;omega
 ·simp;omega
theorem ge(s:Str)(c:UInt8):Fn Tryz.prog bL [.str s,.int .u8 c.toNat] (.int .i64 (Lib.indexByte s c)):=by
 refine yoB bM fun ho=>?_;simp only[oks,ok,and_true]at ho;simp(disch:=omega) [-zAa]
 repeat' (first|(refine BrKd.mk (fun h=>?_) (fun h=>?_)<;>simp(disch:=omega) [*])|(refine BrK.mk (fun h=>?_) (fun h=>?_)<;>simp(disch:=omega) [*])|(refine ac (f_bytealg_IndexByteString _ _) rfl (fun _=>?_)<;>simp(disch:=omega) [*])|(refine ay (f_bytealg_IndexByteString _ _) rfl ?_<;>simp(disch:=omega) [*]))
theorem qQ(s:Str)(c:UInt8):Fn Tryz.prog bv [.str s,.str [c]] (.int .i64 (Lib.indexByte s c)):=by
 refine yoB jx fun ho=>?_;simp only[oks,ok,and_true]at ho;simp(disch:=omega) [-zAa]
 repeat' (first|(refine BrKd.mk (fun h=>?_) (fun h=>?_)<;>simp(disch:=omega) [*])|(refine BrK.mk (fun h=>?_) (fun h=>?_)<;>simp(disch:=omega) [*])|(refine ac (ge _ _) rfl (fun _=>?_)<;>simp(disch:=omega) [*])|(refine ay (ge _ _) rfl ?_<;>simp(disch:=omega) [*]))
 all_goals (try (subst h;simp[Lib.indexByte]))
def cutB(s:Str)(c:UInt8):Str×Str×Bool:=if 0<=Lib.indexByte s c then(s.take (Lib.indexByte s c).toNat,s.drop ((Lib.indexByte s c).toNat+1),true)else(s,[],false)
theorem lc(s:Str)(c:UInt8):Fn Tryz.prog kP [.str s,.str [c]] (.tup [.str (cutB s c).1,.str (cutB s c).2.1,.bool (cutB s c).2.2]):=by
 refine yoB kW fun ho=>?_;simp only[oks,ok,and_true]at ho;have hb:=dV c s;have hg:=Lib.indexByte_ge s c;simp(disch:=omega) [-zAa];refine ac (qQ _ _) rfl fun _=>?_;unfold cutB;generalize Lib.indexByte s c=n at *;simp(disch:=omega) [-zAa];refine BrKd.mk (fun h=>?_) (fun h=>?_)
 ·obtain⟨m,rfl⟩:=Int.eq_ofNat_of_zero_le h
  have hm:=hb.2 h;simp(disch:=omega) [-zAa];rw[zAi (by simp)]
 ·simp(disch:=omega) [-zAa,h]
theorem f_strings_Cut1(s:Str)(c:UInt8):Fn Tryz.prog D3 [.str s,.str [c]] (.tup [.str (cutB s c).1,.str (cutB s c).2.1,.bool (cutB s c).2.2]):=by
 refine yoB EN fun ho=>?_;simp only[oks,ok,and_true]at ho;simp(disch:=omega) [-zAa]
 repeat' (first|(refine BrKd.mk (fun h=>?_) (fun h=>?_)<;>simp(disch:=omega) [*])|(refine BrK.mk (fun h=>?_) (fun h=>?_)<;>simp(disch:=omega) [*])|(refine ac (lc _ _) rfl (fun _=>?_)<;>simp(disch:=omega) [*])|(refine ay (lc _ _) rfl ?_<;>simp(disch:=omega) [*]))
def allowsL(c:Constraint)(v:Str):Bool:=
 v.all sign&&(decide (c.kind=1)||((decide (c.kind=2)&&hasS c.words v)||(decide (c.kind=3)&&(!(cutB v 58).2.2||hasS c.words (cutB v 58).1))))
structure Node where
 kind:Int
 name:Str
 attrs:List Attr
 text:Str
 kids:List Node
mutual
def Node.v:Node->V
 |⟨k,n,a,t,ks⟩=>.strct [.int .i64 k,.str n,.seq 2 (a.map Attr.v),.str t,.seq 5 (Node.vs ks)]
def Node.vs:List Node->List V
 |[]=>[]
 |n::l=>n.v::Node.vs l
end
theorem Node.vs_map:∀l:List Node,Node.vs l=l.map Node.v
 |[]=>by simp[Node.vs]
 |n::l=>by simp[Node.vs,Node.vs_map l]
theorem Node.v_eq(n:Node):n.v=.strct [.int .i64 n.kind,.str n.name,.seq 2 (n.attrs.map Attr.v),.str n.text,.seq 5 (n.kids.map Node.v)]:=by
 cases n;simp[Node.v,Node.vs_map]
attribute [simp] Node.v_eq
section
variable{p:List Node->Prop}(h0:p [])(h1:∀n l,p n.kids->p l->p (n::l))
include h0 h1
mutual
theorem aw:∀l,p l
 |[]=>h0
 |n::l=>h1 n l (P3 n) (aw l)
theorem P3:∀n:Node,p n.kids
 |⟨_,_,_,_,ks⟩=>aw ks
end
end
def ze(p:Policy)(par:Str):List Str:=if par=[]then p.top else((aT p.elements par).getD .zero).kids
theorem KZ(p:Policy)(par:Str):Fn Tryz.prog I0 [p.v,.str par] (.seq 1 ((ze p par).map .str)):=by
 refine yoA JL ?_;simp(disch:=omega) [-zAa,ze];refine BrKd.mk (fun h=>?_) (fun h=>?_)
 ·simp(disch:=omega) [-zAa,h]
 ·simp(disch:=omega) [-zAa,h]
  refine al (kh p par) (by simp) fun _=>?_
  simp(disch:=omega) [-zAa,h]
def cG(p:Policy)(par:Str)(n:Node):Bool:=
 if n.kind=2 then hasS (ze p par) k7 else if n.kind=3 then hasS (ze p par) dG else decide (n.kind=1)&&hasS (ze p par) n.name
theorem C8(p:Policy)(par:Str)(n:Node):Fn Tryz.prog BM [p.v,.str par,n.v] (.bool (cG p par n)):=by
 refine yoA Cg ?_;simp(disch:=omega) [-zAa,cG];refine al (KZ p par) (by simp) fun _=>?_
 simp(disch:=omega) [-zAa]
 repeat' (first
  |(refine BrKd.mk (fun h=>?_) (fun h=>?_)<;>simp(disch:=omega) [*])
  |(refine BrK.mk (fun h=>?_) (fun h=>?_)<;>simp(disch:=omega) [*])
  |(refine ac (ja (ze p par) _) rfl (fun _=>?_)<;>simp(disch:=omega) [k7,dG, *]))
def fits(pat nm:Str):Bool:=plain (eZ pat).1&&(if(eZ pat).2 then fK nm (eZ pat).1 else decide (nm=(eZ pat).1))
theorem K4(pat nm:Str):Fn Tryz.prog I2 [.str pat,.str nm] (.bool (fits pat nm)):=by
 refine yoB JN fun ho=>?_;simp only[oks,ok,and_true]at ho
 have hs:(eZ pat).1.length<=pat.length:=by
  unfold eZ;split
  ·split<;>simp
  ·simp
 simp(disch:=omega) [-zAa,fits];refine ac (wn _) rfl fun _=>?_;simp(disch:=omega) [-zAa];refine ac (iG _) rfl fun _=>?_;generalize(eZ pat).1=a at *;generalize(eZ pat).2=b at *;simp(disch:=omega) [-zAa]
 repeat' (first|(refine BrKd.mk (fun h=>?_) (fun h=>?_)<;>simp(disch:=omega) [*])|(refine BrK.mk (fun h=>?_) (fun h=>?_)<;>simp(disch:=omega) [*]))
 all_goals simp[fK, *]
def fP:List Rule->Str->Option Rule
 |[],_=>none
 |r::l,s=>if fits r.name s then some r else fP l s
def Rule.zero:Rule:=⟨[],⟨0,[],[]⟩,false⟩
theorem KY(e:Allowed)(s:Str):Fn Tryz.prog IZ [e.v,.str s] (.tup [((fP e.rules s).getD .zero).v,.bool (fP e.rules s).isSome]):=by
 refine yoB JK fun ho=>?_;simp only[oks,ok,and_true]at ho;have hlen:e.rules.length<=140737488355328:=by have:=ho.1;simp at this;exact this.2.2.1
 clear ho;simp(disch:=omega) [-zAa];generalize hr:fP e.rules s=r;refine ak (fun k:Nat=>⟨[(1,.str s),(2,.ptr 0 0),(4,.ptr 1 0),(6,.int .i64 k)],[some (.box [.str e.name,.seq 1 (e.kids.map .str),.seq 5 (e.rules.map Rule.v)]),some (.box [.str [],.int .i64 0,.nil 1,.str [],.bool false])]⟩) (fun k=>k<=e.rules.length/\fP (e.rules.drop k) s=r) (fun k=>e.rules.length-k) [] _ 0 rfl (by simp[*]) (by simp[*]) ?_
 rintro k ⟨hk,hi⟩ N hN;rcases place e.rules k hk with⟨he,hd⟩|⟨hlt,x,hx,hd⟩<;>rw[hd]at hi<;>replace hi:=hid hi
 ·simp(disch:=omega) [-zAa,he]
  simp[<-hi.out,fP,Rule.zero]
 ·simp(disch:=omega) [-zAa,hx]
  refine ac (K4 _ _) rfl fun _=>?_;simp(disch:=omega) [-zAa];refine BrK.mk (fun h=>?_) (fun h=>?_)
  ·simp(disch:=omega) [-zAa,hx]
   have hi:=hi.out;simp[fP,h]at hi;subst hi;simp
  ·simp(disch:=omega) [-zAa]
   refine hN.out _<|Nx.mk (k+1) (by simp[*]) ⟨by omega,?_⟩ (by omega)
   have hi:=hi.out;simpa[fP,h]using hi
def Policy.few(p:Policy):Prop:=p.top.length<=1000000/\p.elements.length<=1000000/\∀e∈p.elements,e.kids.length<=1000000/\e.rules.length<=1000000
def rF(A:Constraint->Str->Bool)(e:Allowed)(a:Attr):Bool:=match fP e.rules a.name with
 |some r=>A r.value a.value
 |none=>false
theorem yh:∀{l:List Rule}{s:Str}{r:Rule},fP l s=some r->r∈l/\fits r.name s=true
 |[],s,r,h=>by simp[fP]at h
 |x::l,s,r,h=>by
   simp only[fP]at h;split at h
   ·cases h;exact⟨by simp,by assumption⟩
   ·obtain⟨h1,h2⟩:=yh h;exact⟨by simp[h1],h2⟩
theorem KV(A:Constraint->Str->Bool)(e:Allowed)(a:Attr)(hA:∀r∈e.rules,Fn Tryz.prog dC [r.value.v,.str a.value] (.bool (A r.value a.value))):
 Fn Tryz.prog IV [e.v,a.v] (.bool (rF A e a)):=by
 refine yoA JG ?_;simp(disch:=omega) [-zAa,rF];refine al (KY e a.name) (by simp) fun _=>?_
 cases hf:fP e.rules a.name with
 |none=>
   simp(disch:=omega) [hf]
 |some r=>
   simp(disch:=omega) [-zAa,hf];refine ac (by simpa using hA r (yh hf).1) rfl fun _=>?_
   simp(disch:=omega) [-zAa]
def cZ(A:Constraint->Str->Bool)(e:Allowed)(l:List Attr):List Attr:=l.filter (rF A e)
theorem KU(A:Constraint->Str->Bool)(e:Allowed)(l:List Attr)(hl:l.length<=1000000)(hA:∀r∈e.rules,∀a∈l,Fn Tryz.prog dC [r.value.v,.str a.value] (.bool (A r.value a.value))):
 FnN Tryz.prog IU [e.v,.seq 2 (l.map Attr.v)] (.seq 2 ((cZ A e l).map Attr.v)):=by
 refine FnN.of_image mixed JF.1 JF.2 rfl fun ho=>?_;clear ho;simp(disch:=omega) [-zAa];generalize hw:cZ A e l=w
 refine ak (fun(q:Nat×List Attr)=>⟨[(1,.seq 2 (l.map Attr.v)),(2,.ptr 0 0),(5,.ref 1 q.2.length),(6,.int .i64 q.1)],[some (.box [.str e.name,.seq 1 (e.kids.map .str),.seq 5 (e.rules.map Rule.v)]),some (.arr bT 2 (q.2.map Attr.v))]⟩)
  (fun q=>q.1<=l.length/\q.2.length<=q.1/\q.2++cZ A e (l.drop q.1)=w) (fun q=>l.length-q.1) [.r 5 bT 2] _ (0,[]) rfl (by simp) (by simp[<-hw]) ?_
 rintro⟨k,out⟩ ⟨hk,hol,hi⟩ N hN;simp only at hk hol hi;have hfl:∀l:List Attr,dk (l.map Attr.v)=true:=fun l=>by induction l<;>simp[dk,cJ, *]
 rcases place l k hk with⟨he,hd⟩|⟨hlt,x,hx,hd⟩<;>rw[hd]at hi
 ·simp[cZ]at hi
  subst hi;simp(disch:=omega) [-zAa,he,hfl]
 ·simp only[cZ,zBf]at hi
  replace hi:=hid hi;simp(disch:=omega) [-zAa,hx];refine ay (by simpa using KV A e x (fun r hr=>hA r hr x (zAb hx))) rfl ?_
  simp(disch:=omega) [-zAa];refine BrK.mk (fun h=>?_) (fun h=>?_)
  ·simp(disch:=omega) [-zAa,hx]
   have hi:=hi.out;refine hN.out _<|Nx.mk (k+1,out++[x]) (by simp) ⟨by simp only;omega,by simp;omega,?_⟩ (by simp only;omega)
   simpa[h,cZ]using hi
  ·simp(disch:=omega) [-zAa,hx]
   have hi:=hi.out;refine hN.out _<|Nx.mk (k+1,out) (by simp) ⟨by simp only;omega,by simp only;omega,?_⟩ (by simp only;omega)
   simpa[h,cZ]using hi
def ii:List Attr->Str->Option Str
 |[],_=>none
 |a::l,s=>if a.name=s then some a.value else ii l s
theorem tc(n:Node)(s:Str):Fn Tryz.prog Em [n.v,.str s] (.tup [.str ((ii n.attrs s).getD []),.bool (ii n.attrs s).isSome]):=by
 refine yoB Fb fun ho=>?_;simp only[oks,ok,and_true]at ho;have hlen:n.attrs.length<=140737488355328:=by have:=ho.1;simp at this;exact this.2.2.1.1
 clear ho;simp(disch:=omega) [-zAa];generalize hr:ii n.attrs s=r;refine ak (fun k:Nat=>⟨[(1,.str s),(2,.ptr 0 0),(6,.int .i64 k)],[some (.box [.int .i64 n.kind,.str n.name,.seq 2 (n.attrs.map Attr.v),.str n.text,.seq 5 (n.kids.map Node.v)])]⟩) (fun k=>k<=n.attrs.length/\ii (n.attrs.drop k) s=r) (fun k=>n.attrs.length-k) [] _ 0 rfl (by simp[*]) (by simp[*]) ?_
 rintro k ⟨hk,hi⟩ N hN;rcases place n.attrs k hk with⟨he,hd⟩|⟨hlt,x,hx,hd⟩<;>rw[hd]at hi<;>replace hi:=hid hi
 ·simp(disch:=omega) [-zAa,he]
  simp[<-hi.out,ii]
 ·simp(disch:=omega) [-zAa,hx]
  refine BrKd.mk (fun h=>?_) (fun h=>?_)
  ·simp(disch:=omega) [-zAa,hx]
   have hi:=hi.out;simp[ii,h]at hi;subst hi;simp
  ·simp(disch:=omega) [-zAa]
   refine hN.out _<|Nx.mk (k+1) (by simp[*]) ⟨by omega,?_⟩ (by omega)
   have hi:=hi.out;simpa[ii,h]using hi
def whole(e:Allowed)(l:List Attr):Bool:=e.rules.all fun r=>!(r.req&& !(ii l r.name).isSome)
theorem Gj(e:Allowed)(l:List Attr):Fn Tryz.prog D8 [e.v,.seq 2 (l.map Attr.v)] (.bool (whole e l)):=by
 refine yoB EU fun ho=>?_;simp only[oks,ok,and_true]at ho;have hlen:e.rules.length<=140737488355328:=by have:=ho.1;simp at this;exact this.2.2.1
 clear ho;simp(disch:=omega) [-zAa];generalize hr:whole e l=r;refine ak (fun k:Nat=>⟨[(1,.seq 2 (l.map Attr.v)),(2,.ptr 0 0),(5,.int .i64 k)],[some (.box [.str e.name,.seq 1 (e.kids.map .str),.seq 5 (e.rules.map Rule.v)])]⟩) (fun k=>k<=e.rules.length/\((e.rules.drop k).all fun r=>!(r.req&& !(ii l r.name).isSome))=r) (fun k=>e.rules.length-k) [] _ 0 rfl (by simp[*]) (by simp[*,<-hr,whole]) ?_
 rintro k ⟨hk,hi⟩ N hN;rcases place e.rules k hk with⟨he,hd⟩|⟨hlt,x,hx,hd⟩<;>rw[hd]at hi<;>replace hi:=hid hi
 ·simp(disch:=omega) [-zAa,he]
  simpa using hi.out
 ·simp only[zBb]at hi
  simp(disch:=omega) [-zAa,hx];refine ac (by simpa using tc ⟨0,[],l,[],[]⟩ x.name) rfl fun _=>?_
  simp(disch:=omega) [-zAa,hx];refine BrK.mk (fun h1=>?_) (fun h1=>?_)
  ·simp(disch:=omega) [-zAa,h1]
   refine BrK.mk (fun h2=>?_) (fun h2=>?_)
   ·simp(disch:=omega) [-zAa,h2]
    refine hN.out _<|Nx.mk (k+1) (by simp[*]) ⟨by omega,?_⟩ (by omega)
    have hi:=hi.out;simpa[h1,h2]using hi
   ·simp(disch:=omega) [-zAa,h2]
    have hi:=hi.out;simpa[h1,h2]using hi
  ·simp(disch:=omega) [-zAa,h1]
   refine hN.out _<|Nx.mk (k+1) (by simp[*]) ⟨by omega,?_⟩ (by omega)
   have hi:=hi.out;simpa[h1]using hi
def m5(A:Constraint->Str->Bool)(e:Allowed)(l:List Attr):Bool:=decide ((cZ A e l).length=l.length)&&whole e l
theorem Gl(A:Constraint->Str->Bool)(e:Allowed)(l:List Attr)(hl:l.length<=1000000)(hA:∀r∈e.rules,∀a∈l,Fn Tryz.prog dC [r.value.v,.str a.value] (.bool (A r.value a.value))):
 Fn Tryz.prog D9 [e.v,.seq 2 (l.map Attr.v)] (.bool (m5 A e l)):=by
 refine yoA EW ?_;simp(disch:=omega) [-zAa,m5];refine kx (by simpa using KU A e l hl hA) fun _=>?_
 simp(disch:=omega) [-zAa];refine BrKd.mk (fun h=>?_) (fun h=>?_)
 ·have h':(cZ A e l).length=l.length:=by omega
  simp(disch:=omega) [-zAa,h];refine ac (by simpa using Gj e l) rfl fun _=>?_
  simp(disch:=omega) [-zAa,h,h']
 ·have h':¬(cZ A e l).length=l.length:=by omega
  simp(disch:=omega) [-zAa,h,h']
mutual
def O8(f:Node->Prop):Node->Prop
 |⟨k,n,a,t,ks⟩=>f ⟨k,n,a,t,ks⟩/\an f ks
def an(f:Node->Prop):List Node->Prop
 |[]=>True
 |n::l=>O8 f n/\an f l
end
mutual
def lF:Node->Nat
 |⟨k,n,a,t,ks⟩=>1+ai ks
def ai:List Node->Nat
 |[]=>0
 |n::l=>lF n+ai l
end
theorem xp(f:Node->Prop)(n:Node):O8 f n=(f n/\an f n.kids):=by cases n;simp[O8]
theorem r9(n:Node):lF n=1+ai n.kids:=by cases n;simp[lF]
theorem wH:∀{l:List Node}{n:Node},n∈l->ai n.kids+1<=ai l
 |[],n,h=>by cases h
 |x::l,n,h=>by
   simp only[ai,r9];rcases zAh.1 h with rfl|h
   ·omega
   ·have:=wH h;omega
theorem ep{f:Node->Prop}:∀{l:List Node}{n:Node},an f l->n∈l->f n/\an f n.kids
 |[],n,_,h=>by cases h
 |x::l,n,ha,h=>by
   simp only[an,xp]at ha;rcases zAh.1 h with rfl|h
   ·exact ha.1
   ·exact ep ha.2 h
def fy(A:Constraint->Str->Bool)(p:Policy)(par:Str)(n:Node):Bool:=
 cG p par n&&(!decide (n.kind=1)||m5 A ((aT p.elements n.name).getD .zero) n.attrs)
mutual
def Wr(A:Constraint->Str->Bool)(p:Policy):Node->Int×Nat
 |⟨_,nm,_,_,ks⟩=>cf A p nm ks 0
def cf(A:Constraint->Str->Bool)(p:Policy)(par:Str):List Node->Nat->Int×Nat
 |[],many=>(-1,many)
 |n::l,many=>if fy A p par n then(if 0<=(Wr A p n).1 then((many+1:Int)+(Wr A p n).1,many+1)else cf A p par l (many+1+(Wr A p n).2))else(many,many)
end
theorem AU(A:Constraint->Str->Bool)(p:Policy)(n:Node):Wr A p n=cf A p n.name n.kids 0:=by cases n;simp[Wr]
theorem rT(A:Constraint->Str->Bool)(p:Policy):∀(l:List Node)(par:Str)(many:Nat),many<=(cf A p par l many).2/\(cf A p par l many).2<=many+ai l/\-1<=(cf A p par l many).1/\(cf A p par l many).1<=many+ai l:=by
 refine aw (fun par many=>by simp[cf,ai]) ?_
 intro n l h1 h2 par many;have g1:=h1 n.name 0;simp only[cf,ai,r9,AU];split
 ·split
  ·simp only;omega
  ·have g2:=h2 par (many+1+(cf A p n.name n.kids 0).2)
   omega
 ·simp only;omega
def fineN(n:Node):Prop:=n.attrs.length<=1000000/\∀a∈n.attrs,a.value.length<=1000
theorem kz:∀{l:List Allowed}{s:Str}{r:Allowed},aT l s=some r->r∈l/\r.name=s
 |[],s,r,h=>by simp[aT]at h
 |x::l,s,r,h=>by
   simp only[aT]at h;split at h
   ·cases h;exact⟨by simp,by assumption⟩
   ·obtain⟨h1,h2⟩:=kz h;exact⟨by simp[h1],h2⟩
def xr(A:Constraint->Str->Bool)(p:Policy):Prop:=∀e∈p.elements,∀r∈e.rules,∀v:Str,v.length<=1000->Fn Tryz.prog dC [r.value.v,.str v] (.bool (A r.value v))
theorem Ou (A:Constraint→Str→Bool) (p:Policy) (hA:xr A p):∀ (l:List Node) (par:Str),an fineN l→ai l≤1000000000→
 Fn Tryz.prog lU [p.v,.str par,.seq 5 (l.map Node.v)] (.tup [.int .i64 (cf A p par l 0).1,.int .i64 (cf A p par l 0).2]):=by
 have key:∀ l:List Node,(∀ n∈l,∀ (par:Str),an fineN n.kids→ai n.kids≤1000000000→Fn Tryz.prog lU [p.v,.str par,.seq 5 (n.kids.map Node.v)] (.tup [.int .i64 (cf A p par n.kids 0).1,.int .i64 (cf A p par n.kids 0).2]))→
  ∀ (par:Str),an fineN l→ai l≤1000000000→Fn Tryz.prog lU [p.v,.str par,.seq 5 (l.map Node.v)] (.tup [.int .i64 (cf A p par l 0).1,.int .i64 (cf A p par l 0).2]):=by
  intro l hrec par hfi hc
  refine yoB No fun ho=>?_
  simp only [oks,ok,and_true] at ho
  have hlen:l.length≤140737488355328:=by have:=ho.2.2; simp at this; exact this.1
  clear ho
  simp (disch:=omega) [-zAa]
  generalize hR:cf A p par l 0=R
  have hRb:=rT A p l par 0
  rw [hR] at hRb
  refine ak (fun (q:Nat × Nat)=>⟨[(1,.str par),(2,.seq 5 (l.map Node.v)),(3,.ptr 0 0),(8,.int .i64 q.2),(9,.int .i64 q.1)],[some (.box [.seq 1 (p.top.map .str),.seq 3 (p.elements.map Allowed.v),.seq 1 (p.unwrap.map .str)])]⟩)
   (fun q=>q.1≤l.length∧cf A p par (l.drop q.1) q.2=R) (fun q=>l.length - q.1) [] _ (0,0) rfl (by simp) (by simp [hR]) ?_
  rintro ⟨k,many⟩ ⟨hk,hi⟩ N hN
  simp only at hk hi
  rcases place l k hk with ⟨he,hd⟩ | ⟨hlt,x,hx,hd⟩<;>rw [hd] at hi
  · simp only [cf] at hi
    subst hi
    simp (disch:=omega) [-zAa,he]
  · have hxm:=zAb hx
    obtain ⟨hfx,hfk⟩:=ep hfi hxm
    have hcx:=wH hxm
    have hm:=rT A p (l.drop k) par many
    rw [hd,hi] at hm
    have hxk:=rT A p x.kids x.name 0
    simp only [cf,AU] at hi
    replace hi:=hid hi
    simp (disch:=omega) [-zAa,hx]
    refine ay (by simpa using C8 p par x) rfl ?_
    simp (disch:=omega) [-zAa,hx]
    refine b7 (by simpa using kh p x.name) (by simp) ?_
    have hAe:∀ r∈((aT p.elements x.name).getD .zero).rules,∀ a∈x.attrs,Fn Tryz.prog dC [r.value.v,.str a.value] (.bool (A r.value a.value)):=by
     intro r hr a ha
     cases hf:aT p.elements x.name with
     | none=>rw [hf] at hr; simp [Allowed.zero] at hr
     | some e=>rw [hf] at hr; exact hA e (kz hf).1 r hr a.value (hfx.2 a ha)
    generalize hE:(aT p.elements x.name).getD .zero=E at hAe
    have bad:fy A p par x=false→R=((many:Int),many):=fun h=>by have hi:=hi.out; rw [if_neg (by simp [h])] at hi; exact hi.symm
    have good:fy A p par x=true→(if 0≤(cf A p x.name x.kids 0).1 then ((many + 1:Int) + (cf A p x.name x.kids 0).1,many + 1) else cf A p par (l.drop (k + 1)) (many + 1 + (cf A p x.name x.kids 0).2))=R:=fun h=>by have hi:=hi.out; rw [if_pos h] at hi; exact hi
    replace bad:=hid bad
    replace good:=hid good
    have fin:fy A p par x=true→∀ τ:St,τ.nrm [1,2,3,8,9]=⟨[(1,.str par),(2,.seq 5 (l.map Node.v)),(3,.ptr 0 0),(8,.int .i64 ((many + 1 + (cf A p x.name x.kids 0).2:Nat):Int)),(9,.int .i64 ((k + 1:Nat):Int))],[some (.box [.seq 1 (p.top.map .str),.seq 3 (p.elements.map Allowed.v),.seq 1 (p.unwrap.map .str)])]⟩→
     ¬0≤(cf A p x.name x.kids 0).1→N τ:=by
     intro h τ hτ hn
     have g:=good.out h
     rw [if_neg hn] at g
     exact hN.out _<|Nx.mk (k + 1,many + 1 + (cf A p x.name x.kids 0).2) hτ ⟨by simp only; omega,g⟩ (by simp only; omega)
    simp (disch:=omega) [-zAa,hx]
    repeat' (first
     | (refine BrKd.mk (fun h=>?_) (fun h=>?_)<;>simp (disch:=omega) [hE, *])
     | (refine BrK.mk (fun h=>?_) (fun h=>?_)<;>simp (disch:=omega) [hE, *])
     | (refine ay (by simpa using Gl A E x.attrs hfx.1 hAe) rfl ?_<;>simp (disch:=omega) [*])
     | (refine ay (by simpa using hrec x hxm x.name hfk (by omega)) rfl ?_<;>simp (disch:=omega) [*]))
    all_goals
     first
     | (have hb:=bad.out (by simp [fy,hE, *]); simp [hb]; done)
     | (have hok:fy A p par x=true:=by simp [fy,hE, *]
        first
        | (refine fin hok _ (by simp<;>omega) (by omega); done)
        | (have g:=good.out hok
           rw [if_pos (show 0≤(cf A p x.name x.kids 0).1 by omega)] at g
           simp [←g]; done))
 have all:∀ l:List Node,∀ n∈l,∀ (par:Str),an fineN n.kids→ai n.kids≤1000000000→Fn Tryz.prog lU [p.v,.str par,.seq 5 (n.kids.map Node.v)] (.tup [.int .i64 (cf A p par n.kids 0).1,.int .i64 (cf A p par n.kids 0).2]):=by
  refine aw (fun x hx=>by cases hx) ?_
  intro n l h1 h2 x hx
  rcases zAh.1 hx with rfl | hx
  · exact fun par=>key _ h1 par
  · exact h2 x hx
 exact fun l par=>key l (all l) par
def bV(b:UInt8):V:=.int .u8 b.toNat
theorem Ri(s:Str):fJ s=s.map bV:=yB s
theorem Sp(b:UInt8):bV b=.int .u8 b.toNat:=rfl
attribute [simp] Ri Sp
def follows(b:UInt8):Bool:=decide (128<=b.toNat)&&decide (b.toNat<192)
theorem AG(b:UInt8):Fn Tryz.prog Ag [.int .u8 b.toNat] (.bool (follows b)):=by
 refine yoB Ap fun ho=>?_;simp only[oks,ok,and_true]at ho;simp(disch:=omega) [-zAa,follows]
 repeat' (first|(refine BrKd.mk (fun h=>?_) (fun h=>?_)<;>simp(disch:=omega) [*])|(refine BrK.mk (fun h=>?_) (fun h=>?_)<;>simp(disch:=omega) [*]))
def hdr(c:Nat):Nat×Nat×Nat:=
 if 192<=c/\c<224 then(2,c-192,128)else if 224<=c/\c<240 then(3,c-224,2048)else if 240<=c/\c<248 then(4,c-240,65536)else(0,0,0)
def goV:Str->Nat->Option Nat
 |[],v=>some v
 |b::l,v=>if follows b then goV l (64*v+b.toNat-128)else none
def vD(n least:Nat):Option Nat->Nat×Nat
 |none=>(65533,1)
 |some v=>if v<least\/1114111<v\/(55296<=v/\v<=57343)then(65533,1)else(v,n)
def one:Str->Nat×Nat
 |[]=>(65533,1)
 |b::t=>if b.toNat<128 then(b.toNat,1)
   else if(hdr b.toNat).1=0\/t.length+1<(hdr b.toNat).1 then(65533,1)
   else vD (hdr b.toNat).1 (hdr b.toNat).2.2 (goV (t.take ((hdr b.toNat).1-1)) (hdr b.toNat).2.1)
theorem HQ(c:Nat):(hdr c).1=0\/(2<=(hdr c).1/\(hdr c).1<=4/\(hdr c).2.1<64/\(hdr c).2.2<=65536):=by
 unfold hdr;split
 ·simp;omega
 ·split
  ·simp;omega
  ·split
   ·simp;omega
   ·simp
theorem io(s:Str):1<=(one s).2/\(one s).2<=4/\(s≠[]->(one s).2<=s.length)/\(one s).1<=1114111/\¬(55296<=(one s).1/\(one s).1<=57343):=by
 cases s with
 |nil=>simp[one]
 |cons b t=>
   have hb:=b.toNat_lt;have hr:=HQ b.toNat;simp only[one];split
   ·simp;omega
   ·split
    ·simp
    ·rename_i h
     unfold vD;split
     ·simp
     ·split
      ·simp
      ·rename_i h2
       simp only[zAd];omega
theorem QH{b:UInt8}(h:follows b=true):128<=b.toNat/\b.toNat<192:=by simpa[follows]using h
theorem OB(b:UInt8)(t:Str):Fn Tryz.prog MV [.seq 1 ((b::t).map bV)] (.tup [.int .i32 (one (b::t)).1,.int .i64 (one (b::t)).2]):=by
 refine yoB NB fun ho=>?_;simp only[oks,ok,and_true]at ho;have hlen:t.length<140737488355328:=by have:=ho.1;simp at this;omega
 clear ho;have hb:=b.toNat_lt;generalize hR:one (b::t)=R;have hR2:=hR;simp only[one]at hR2;simp(disch:=omega) [-zAa];have hr:=HQ b.toNat;refine BrKd.mk (fun h=>?_) (fun h=>?_)
 ·rw[if_pos h]at hR2
  simp(disch:=omega) [-zAa,<-hR2]
 ·rw[if_neg h]at hR2
  have hz:(hdr b.toNat).1=0->R=(65533,1):=fun h=>by rw[if_pos (.inl h)]at hR2;exact hR2.symm
  have hs:t.length+1<(hdr b.toNat).1->R=(65533,1):=fun h=>by rw[if_pos (.inr h)]at hR2;exact hR2.symm
  have hok:¬(hdr b.toNat).1=0->¬t.length+1<(hdr b.toNat).1->vD (hdr b.toNat).1 (hdr b.toNat).2.2 (goV (t.take ((hdr b.toNat).1-1)) (hdr b.toNat).2.1)=R:=fun h h'=>by rw[if_neg (by simp[h,h'])]at hR2;exact hR2
  clear hR2;replace hz:=hid hz;replace hs:=hid hs;replace hok:=hid hok;simp(disch:=omega) [-zAa]
  repeat' (first
   |(refine BrKd.mk (fun h=>?_) (fun h=>?_)<;>simp(disch:=omega) [*])
   |(refine BrK.mk (fun h=>?_) (fun h=>?_)<;>simp(disch:=omega) [*]))
  all_goals
   first
   |(have hq:hdr b.toNat=(2,b.toNat-192,128):=by unfold hdr;rw[if_pos (by omega)])
   |(have hq:hdr b.toNat=(3,b.toNat-224,2048):=by unfold hdr;rw[if_neg (by omega),if_pos (by omega)])
   |(have hq:hdr b.toNat=(4,b.toNat-240,65536):=by unfold hdr;rw[if_neg (by omega),if_neg (by omega),if_pos (by omega)])
   |(have hq:hdr b.toNat=(0,0,0):=by unfold hdr;rw[if_neg (by omega),if_neg (by omega),if_neg (by omega)])
   by_cases h0:(hdr b.toNat).1=0
   ·first
    |(have h0:=hz.out h0;simp[h0];done)
    |(exfalso;rw[hq]at h0;simp at h0;done)
   by_cases h1:t.length+1<(hdr b.toNat).1
   ·first
    |(have h0:=hs.out h1;simp[h0];done)
    |(exfalso;rw[hq]at h1;simp at h1;omega)
   first
   |(exfalso;rw[hq]at h0;exact h0 rfl)
   |(exfalso;rw[hq]at h1;simp only at h1;omega)
   |skip
  all_goals
   obtain⟨n,hn⟩:∃n:Nat,n=(hdr b.toNat).1:=⟨_,rfl⟩;obtain⟨v0,hv⟩:∃n:Nat,n=(hdr b.toNat).2.1:=⟨_,rfl⟩;obtain⟨le,hl⟩:∃n:Nat,n=(hdr b.toNat).2.2:=⟨_,rfl⟩;rw[<-hn,<-hv,<-hl]at hok hr;rw[hq]at hn hv hl;simp only at hn hv hl;have hok:=hok.out (by omega) (by omega)
   have htl:(t.take (n-1)).length=n-1:=by rw[zAe];omega
   refine ak (fun(q:Nat×Nat)=>⟨[(0,.seq 1 ((b::t).map bV)),(5,.int .i64 n),(6,.int .i64 q.2),(7,.int .i64 le),(8,.int .i64 ((q.1:Int)+1))],[]⟩)
    (fun q=>q.1<=(t.take (n-1)).length/\vD n le (goV ((t.take (n-1)).drop q.1) q.2)=R/\((q.1=0/\q.2<64)\/(q.1=1/\q.2<4096)\/(q.1=2/\q.2<262144)\/(q.1=3/\q.2<16777216))) (fun q=>(t.take (n-1)).length-q.1) [] _ (0,v0) rfl (by simp[hn,hv,hl];omega) (by simp[hok];omega) ?_
   have hn24:2<=n/\n<=4/\le<=65536:=by omega
   clear hq hn hv hl;rintro⟨j,v⟩ ⟨hj,hi,hvb⟩ N hN;simp only at hj hi hvb;rcases place (t.take (n-1)) j hj with⟨he,hd⟩|⟨hlt,x,hx,hd⟩<;>rw[hd,goV]at hi
   ·simp only[vD]at hi
    have bad:(v<le\/1114111<v\/(55296<=v/\v<=57343))->R=(65533,1):=fun h=>by rw[if_pos h]at hi;exact hi.symm
    have good:¬(v<le\/1114111<v\/(55296<=v/\v<=57343))->R=(v,n):=fun h=>by rw[if_neg h]at hi;exact hi.symm
    clear hi;replace bad:=hid bad;replace good:=hid good;have hjn:j+1=n:=by omega
    have hjn2:¬((j:Int)+1<n):=by omega
    simp(disch:=omega) [-zAa,hjn2]
    repeat' (first
     |(refine BrKd.mk (fun h=>?_) (fun h=>?_)<;>simp(disch:=omega) [*])
     |(refine BrK.mk (fun h=>?_) (fun h=>?_)<;>simp(disch:=omega) [*]))
    all_goals first
     |(rw[bad.out (by omega)];simp;done)
     |(rw[good.out (by omega)];simp;done)
   ·have hx2:t[j]?=some x:=by rw[zAf]at hx;simpa[show j<n-1 by omega]using hx
    have hxb:=x.toNat_lt;have hjn2:(j:Int)+1<n:=by omega
    replace hi:=hid hi;simp(disch:=omega) [-zAa,hx2,hjn2];refine ac (AG x) rfl fun _=>?_;simp(disch:=omega) [-zAa];refine BrK.mk (fun h=>?_) (fun h=>?_)
    ·have hf:=QH h
     simp(disch:=omega) [-zAa,hx2];have hi:=hi.out;rw[if_pos h]at hi;refine hN.out _<|Nx.mk (j+1,64*v+x.toNat-128) (by simp;omega) ⟨by simp only;omega,hi,by simp only;omega⟩ (by simp only;omega)
    ·simp(disch:=omega) [-zAa]
     have hi:=hi.out;rw[if_neg (by simp[h])]at hi
     simp[<-hi,vD]
def ik:Nat->Str->List Nat
 |0,_=>[]
 |_,[]=>[]
 |f+1,b::t=>(one (b::t)).1::ik f ((b::t).drop (one (b::t)).2)
def dK(s:Str):List Nat:=ik s.length s
theorem PI:∀(f:Nat)(s:Str),s.length<=f->ik f s=dK s:=by
 have key:∀(n f g:Nat)(s:Str),s.length<=n->s.length<=f->s.length<=g->ik f s=ik g s:=by
  intro n
  induction n with
  |zero=>intro f g s h1 _ _;have:s=[]:=zAg (by omega);subst this;cases f<;>cases g<;>rfl
  |succ n ih=>
    intro f g s h1 h2 h3;cases s with
    |nil=>cases f<;>cases g<;>rfl
    |cons b t=>
      cases f with
      |zero=>simp at h2
      |succ f=>cases g with
        |zero=>simp at h3
        |succ g=>
          simp only[ik];have:=io (b::t);simp only[zAd]at h1 h2 h3;rw[ih f g _ (by simp;omega) (by simp;omega) (by simp;omega)]
 intro f s h;exact key s.length f s.length s (zBh _) h (zBh _)
theorem fU(b:UInt8)(t:Str):dK (b::t)=(one (b::t)).1::dK ((b::t).drop (one (b::t)).2):=by
 have:=io (b::t);rw[<-PI t.length ((b::t).drop (one (b::t)).2) (by simp;omega)]
 rfl
theorem G3:∀(n:Nat)(s:Str),s.length<=n->(dK s).length<=s.length:=by
 intro n
 induction n with
 |zero=>intro s h;have:s=[]:=zAg (by omega);subst this;simp[dK,ik]
 |succ n ih=>
   intro s h;cases s with
   |nil=>simp[dK,ik]
   |cons b t=>
     have h1:=io (b::t);rw[fU];simp only[zAd]at h⊢;have:=ih ((b::t).drop (one (b::t)).2) (by simp;omega)
     simp at this;omega
theorem G2:∀(n:Nat)(s:Str),s.length<=n->∀r∈dK s,r<=1114111/\¬(55296<=r/\r<=57343):=by
 intro n
 induction n with
 |zero=>intro s h r hr;have:s=[]:=zAg (by omega);subst this;simp[dK,ik]at hr
 |succ n ih=>
   intro s h r hr;cases s with
   |nil=>simp[dK,ik]at hr
   |cons b t=>
     have h1:=io (b::t);rw[fU]at hr;simp only[zAd]at h;rcases zAh.1 hr with rfl|hr
     ·exact h1.2.2.2
     ·exact ih _ (by simp;omega) r hr
def rV(r:Nat):V:=.int .i32 r
theorem rV_eq(r:Nat):rV r=.int .i32 r:=rfl
attribute [simp] rV_eq
theorem Gv(s:Str)(hs:s.length<=1000000):FnN Tryz.prog Er [.seq 1 (s.map bV)] (.seq 1 ((dK s).map rV)):=by
 refine FnN.of_image mixed Ff.1 Ff.2 rfl fun ho=>?_;clear ho;simp(disch:=omega) [-zAa];generalize hw:dK s=w
 refine ak (fun(q:Nat×List Nat)=>⟨[(0,.seq 1 (s.map bV)),(3,.ref 0 q.2.length),(4,.int .i64 q.1)],[some (.arr mR 1 (q.2.map rV))]⟩)
  (fun q=>q.1<=s.length/\q.2.length<=q.1/\q.2++dK (s.drop q.1)=w) (fun q=>s.length-q.1) [.r 3 mR 1] _ (0,[]) rfl (by simp) (by simp[<-hw]) ?_
 rintro⟨k,out⟩ ⟨hk,hol,hi⟩ N hN;simp only at hk hol hi;have hfl:∀l:List Nat,dk (l.map rV)=true:=fun l=>by induction l<;>simp[dk,cJ, *]
 rcases place s k hk with⟨he,hd⟩|⟨hlt,x,hx,hd⟩<;>rw[hd]at hi
 ·simp[dK,ik]at hi
  subst hi;simp(disch:=omega) [-zAa,he,hfl]
 ·have h1:=io (x::s.drop (k+1))
  rw[fU]at hi;have hd2:(x::s.drop (k+1)).drop (one (x::s.drop (k+1))).2=s.drop (k+(one (x::s.drop (k+1))).2):=by rw[<-hd,List.drop_drop]
  rw[hd2]at hi;have hle:=h1.2.2.1 (by simp)
  simp only[zAd,List.length_drop]at hle;replace hi:=hid hi
  have hsl:xD (s.map bV) k s.length=some ((x::s.drop (k+1)).map bV):=by
   simp only[xD];rw[if_pos (by simp;omega),<-hd]
   simp;rw[zAi (by simp)]
  simp(disch:=omega) [hsl,-zAj,-xD];refine ac (OB x (s.drop (k+1))) rfl fun _=>?_;generalize one (x::s.drop (k+1))=o at *;simp(disch:=omega) [-zAa];refine hN.out _<|Nx.mk (k+o.2,out++[o.1]) (by simp) ⟨by simp only;omega,by simp;omega,by simpa using hi.out⟩ (by simp only;omega)
def b8(n:Nat):UInt8:=UInt8.ofNat n
theorem bf{n:Nat}(h:n<256):(b8 n).toNat=n:=by simp[b8,UInt8.toNat_ofNat,Nat.mod_eq_of_lt h]
def ci(r:Nat):Str:=
 let v:=if 1114111<r\/(55296<=r/\r<=57343)then 65533 else r
 if v<128 then[b8 v]
 else if v<2048 then[b8 (192+v/64),b8 (128+v%64)]
 else if v<65536 then[b8 (224+v/4096),b8 (128+v/64%64),b8 (128+v%64)]
 else[b8 (240+v/262144),b8 (128+v/4096%64),b8 (128+v/64%64),b8 (128+v%64)]
theorem DE(r:Nat):(ci r).length<=4:=by
 unfold ci;simp only
 repeat' split
 all_goals simp
theorem Gu(r:Nat)(h:r<=1114111):Fn Tryz.prog Ep [.int .i32 r] (.seq 1 ((ci r).map bV)):=by
 refine yoA Fe ?_;generalize hR:ci r=R;unfold ci at hR;simp only at hR;by_cases hb:1114111<r\/(55296<=r/\r<=57343)
 ·rw[if_pos hb]at hR
  simp(disch:=omega) [-zAa]
  repeat' (first
   |(refine BrKd.mk (fun h=>?_) (fun h=>?_)<;>simp(disch:=omega) [*])
   |(refine BrK.mk (fun h=>?_) (fun h=>?_)<;>simp(disch:=omega) [*]))
  all_goals first|omega|(subst hR;rfl)
 ·rw[if_neg hb]at hR
  simp(disch:=omega) [-zAa]
  repeat' (first
   |(refine BrKd.mk (fun h=>?_) (fun h=>?_)<;>simp(disch:=omega) [*])
   |(refine BrK.mk (fun h=>?_) (fun h=>?_)<;>simp(disch:=omega) [*]))
  all_goals (subst hR;simp(disch:=omega) [bf])
def eA(l:List Nat):Str:=(l.map ci).flatten
theorem GV:∀l:List Nat,(eA l).length<=4*l.length
 |[]=>by simp[eA]
 |r::l=>by
   have h1:=DE r;have h2:=GV l;simp only[eA,zAj,zCh,zBa,zAd]at *;omega
theorem vF:∀s:Str,cz (s.map bV)=some s
 |[]=>rfl
 |b::s=>by
   have:=vF s;simp only[zAj,Sp,cz,this,Option.map_some,zDf,zDg,and_true];simp
attribute [simp] vF
theorem Ld(l:List Nat)(hl:l.length<=1000000)(hr:∀r∈l,r<=1114111):Fn Tryz.prog Jf [.seq 1 (l.map rV)] (.str (eA l)):=by
 refine yoA J3 ?_;simp(disch:=omega) [-zAa];generalize hw:eA l=w
 refine ak (fun(q:Nat×Str)=>⟨[(0,.seq 1 (l.map rV)),(3,.ref 0 q.2.length),(4,.int .i64 q.1)],[some (.arr kD 1 (q.2.map bV))]⟩)
  (fun q=>q.1<=l.length/\q.2.length<=4*q.1/\q.2++eA (l.drop q.1)=w) (fun q=>l.length-q.1) [.r 3 kD 1] _ (0,[]) rfl (by simp) (by simp[<-hw]) ?_
 rintro⟨k,out⟩ ⟨hk,hol,hi⟩ N hN;simp only at hk hol hi;rcases place l k hk with⟨he,hd⟩|⟨hlt,x,hx,hd⟩<;>rw[hd]at hi
 ·simp[eA]at hi
  subst hi;simp(disch:=omega) [he,-Sp]
 ·simp only[eA,zAj,zCh]at hi
  have hxl:=DE x;replace hi:=hid hi;simp(disch:=omega) [-zAa,hx];refine al (Gu x (hr x (zAb hx))) (by simp) fun _=>?_
  simp(disch:=omega) [-zAa];refine hN.out _<|Nx.mk (k+1,out++ci x) (by simp) ⟨by simp only;omega,by simp;omega,by simpa[eA]using hi.out⟩ (by simp only;omega)
def i9:Option Nat->List Nat->List Nat
 |_,[]=>[]
 |p,r::l=>(if r=10/\p=some 13 then[]else[if r=13 then 10 else if r=0 then 65533 else r])++i9 (some r) l
theorem Om:∀(l:List Nat)(p:Option Nat),(i9 p l).length<=l.length
 |[],p=>by simp[i9]
 |r::l,p=>by
   have:=Om l (some r);simp only[i9,zBa,zAd];split<;>simp<;>omega
theorem Ol:∀(l:List Nat)(p:Option Nat),(∀r∈l,r<=1114111)->∀r∈i9 p l,r<=1114111
 |[],p,_,r,hr=>by simp[i9]at hr
 |x::l,p,h,r,hr=>by
   simp only[i9,zBd]at hr;rcases hr with hr|hr
   ·have:=h x (by simp)
    split at hr
    ·cases hr
    ·simp at hr;subst hr;split<;>(try split)<;>omega
   ·exact Ol l _ (fun y hy=>h y (by simp[hy])) r hr
def dx(s:Str):Str:=eA (i9 none (dK s))
def oH(l:List Nat)(k:Nat):Option Nat:=if k=0 then none else l[k-1]?
theorem mA(s:Str)(hs:s.length<=1000000):Fn Tryz.prog Es [.seq 1 (s.map bV)] (.str (dx s)):=by
 refine yoA Fg ?_;have hrl:=G3 s.length s (zBh _);have hrm:=G2 s.length s (zBh _);simp(disch:=omega) [-zAa];refine kx (Gv s hs) fun _=>?_;unfold dx;generalize dK s=l at *;simp(disch:=omega) [-zAa];generalize hw:i9 none l=w;have hwm:=Ol l none (fun r hr=>(hrm r hr).1);rw[hw]at hwm
 refine ak (fun(q:Nat×List Nat)=>⟨[(3,.seq 1 (l.map rV)),(4,.ref 0 q.2.length),(5,.int .i64 q.1)],[some (.arr mR 1 (q.2.map rV))]⟩)
  (fun q=>q.1<=l.length/\q.2.length<=q.1/\q.2++i9 (oH l q.1) (l.drop q.1)=w) (fun q=>l.length-q.1) [.r 4 mR 1] _ (0,[]) rfl (by simp) (by simp[<-hw,oH]) ?_
 rintro⟨k,out⟩ ⟨hk,hol,hi⟩ N hN;simp only at hk hol hi;rcases place l k hk with⟨he,hd⟩|⟨hlt,x,hx,hd⟩<;>rw[hd]at hi
 ·simp[i9]at hi
  subst hi;simp(disch:=omega) [-zAa,he];refine ac (Ld out (by omega) hwm) rfl fun _=>?_
  simp(disch:=omega) [-zAa]
 ·have hp1:oH l (k+1)=some x:=by simp[oH,hx]
  simp only[i9,<-hp1]at hi;have skip:(x=10/\oH l k=some 13)->out++i9 (oH l (k+1)) (l.drop (k+1))=w:=fun h=>by rw[if_pos h]at hi;simpa using hi
  have put:¬(x=10/\oH l k=some 13)->(out++[if x=13 then 10 else if x=0 then 65533 else x])++i9 (oH l (k+1)) (l.drop (k+1))=w:=fun h=>by rw[if_neg h]at hi;simpa using hi
  clear hi;replace skip:=hid skip
  replace put:=hid put;have hxr:=(hrm x (zAb hx)).1
  have fin:∀τ:St,∀o2:List Nat,τ.nrm [3,4,5]=⟨[(3,.seq 1 (l.map rV)),(4,.ref 0 o2.length),(5,.int .i64 ((k+1:Nat):Int))],[some (.arr mR 1 (o2.map rV))]⟩->o2.length<=k+1->o2++i9 (oH l (k+1)) (l.drop (k+1))=w->N τ:=by
   intro τ o2 h1 h2 h3;exact hN.out _<|Nx.mk (k+1,o2) h1 ⟨by simp only;omega,h2,h3⟩ (by simp only;omega)
  by_cases h10:x=10
  ·subst h10
   rcases zBe k with hk0|hk0
   ·subst hk0
    simp(disch:=omega) [-zAa,hx];exact fin _ (out++[10]) (by simp) (by simp only[zBa,zAd,zBc];omega) (by simpa using put.out (by simp[oH]))
   ·obtain⟨y,hy⟩:=aP (l:=l) (k:=k-1) (by omega)
    have hkt:((k:Int)-1).toNat=k-1:=by omega
    simp(disch:=omega) [-zAa,hx,hy,hkt];refine BrKd.mk (fun h=>?_) (fun h=>?_)
    ·simp(disch:=omega) [-zAa,hx]
     exact fin _ out (by simp) (by omega) (skip.out ⟨rfl,by simp[oH,hy];omega⟩)
    ·simp(disch:=omega) [-zAa,hx]
     exact fin _ (out++[10]) (by simp) (by simp;omega) (by simpa using put.out (by simp[oH,hy];omega))
  ·by_cases h13:x=13
   ·subst h13
    simp(disch:=omega) [-zAa,hx];exact fin _ (out++[10]) (by simp) (by simp;omega) (by simpa using put.out (by simp))
   ·by_cases h0:x=0
    ·subst h0
     simp(disch:=omega) [-zAa,hx];exact fin _ (out++[65533]) (by simp) (by simp;omega) (by simpa using put.out (by simp))
    ·simp(disch:=omega) [-zAa,hx,h10,h13,h0]
     exact fin _ (out++[x]) (by simp) (by simp;omega) (by simpa[h13,h0]using put.out (by simp[h10]))
theorem uU(s:Str)(hs:s.length<=1000000):Fn Tryz.prog Qa [.str s] (.bool (decide (dx s=s))):=by
 refine yoB Qs fun ho=>?_;simp only[oks,ok,and_true]at ho;simp(disch:=omega) [-zAa];refine ac (by simpa using mA s hs) rfl fun _=>?_
 simp(disch:=omega) [-zAa]
def sI(s:Str):Str:=s.take 30
theorem l7(s:Str):Fn Tryz.prog MS [.str s] (.str (sI s)):=by
 refine yoB Nv fun ho=>?_;simp only[oks,ok,and_true]at ho;simp(disch:=omega) [-zAa,sI];refine BrKd.mk (fun h=>?_) (fun h=>?_)
 ·simp(disch:=omega) [-zAa,h]
 ·simp(disch:=omega) [-zAa,h]
  rw[zAi (by omega)]
def TZ(a:Attr):Attr:=⟨sI a.name,sI a.value⟩
mutual
def Xv:Node->Nat->List Node×Nat
 |⟨_,_,_,_,ks⟩,m=>dX ks m
def dX:List Node->Nat->List Node×Nat
 |[],m=>([],m)
 |n::l,m=>if m=0 then([],0)else
   (⟨n.kind,sI n.name,(n.attrs.take 5).map TZ,sI n.text,(Xv n (m-1)).1⟩::(dX l (Xv n (m-1)).2).1,(dX l (Xv n (m-1)).2).2)
end
theorem A1(n:Node)(m:Nat):Xv n m=dX n.kids m:=by cases n;simp[Xv]
theorem wG:∀(l:List Node)(m:Nat),ai (dX l m).1+(dX l m).2<=m:=by
 refine aw (fun m=>by simp[dX,ai]) ?_
 intro n l h1 h2 m;simp only[dX,A1];split
 ·simp[ai]
 ·have g1:=h1 (m-1)
  have g2:=h2 (dX n.kids (m-1)).2;simp only[ai,lF];omega
theorem dr:∀l:List Node,l.length<=ai l
 |[]=>by simp[ai]
 |n::l=>by have:=dr l;simp[ai,r9];omega
theorem OA:∀(l:List Node)(m:Nat),m<=1000->Fn Tryz.prog lX [.seq 5 (l.map Node.v),.int .i64 m] (.tup [.seq 5 ((dX l m).1.map Node.v),.int .i64 (dX l m).2]):=by
 have key:∀l:List Node,(∀n∈l,∀m:Nat,m<=1000->Fn Tryz.prog lX [.seq 5 (n.kids.map Node.v),.int .i64 m] (.tup [.seq 5 ((dX n.kids m).1.map Node.v),.int .i64 (dX n.kids m).2]))->
  ∀m:Nat,m<=1000->Fn Tryz.prog lX [.seq 5 (l.map Node.v),.int .i64 m] (.tup [.seq 5 ((dX l m).1.map Node.v),.int .i64 (dX l m).2]):=by
  intro l hrec m hm;refine yoB NA fun ho=>?_;simp only[oks,ok,and_true]at ho;have hlen:l.length<=140737488355328:=by have:=ho.1;simp at this;exact this.1
  clear ho;simp(disch:=omega) [-zAa];generalize hR:dX l m=R
  refine ak (fun(q:Nat×Nat×List Node)=>⟨[(0,.seq 5 (l.map Node.v)),(1,.int .i64 q.2.1),(6,.ref 0 q.2.2.length),(7,.int .i64 q.1)],[some (.arr aC 5 (q.2.2.map Node.v))]⟩)
   (fun q=>q.1<=l.length/\q.2.2.length+q.2.1<=1000/\(q.2.2++(dX (l.drop q.1) q.2.1).1,(dX (l.drop q.1) q.2.1).2)=R) (fun q=>l.length-q.1) [.r 6 aC 5] _ (0,m,[]) rfl (by simp) (by simp[hR];omega) ?_
  rintro⟨k,m,out⟩ ⟨hk,hol,hi⟩ N hN;simp only at hk hol hi;rcases place l k hk with⟨he,hd⟩|⟨hlt,x,hx,hd⟩<;>rw[hd]at hi
  ·simp[dX]at hi
   subst hi;simp(disch:=omega) [-zAa,he]
  ·simp only[dX,A1]at hi
   rcases zBe m with hm0|hm0
   ·subst hm0
    simp at hi;subst hi;simp(disch:=omega) [-zAa]
   ·rw[if_neg (by omega)]at hi
    have hxc:=wG x.kids (m-1);replace hi:=hid hi;simp(disch:=omega) [-zAa,hx];refine ac (l7 _) rfl fun _=>?_;simp(disch:=omega) [-zAa];refine ac (l7 _) rfl fun _=>?_;simp(disch:=omega) [-zAa];have hm1:((m:Int)-1)=((m-1:Nat):Int):=by omega
    rw[hm1];refine al (hrec x (zAb hx) (m-1) (by omega)) (by simp) fun _=>?_
    generalize dX x.kids (m-1)=ck at *;simp(disch:=omega) [-zAa];have hl5:(zAc 5 x.attrs).length=min 5 x.attrs.length:=zAe
    refine ak (fun(q:Nat)=>⟨[(0,.seq 5 (l.map Node.v)),(1,.int .i64 ck.2),(6,.ref 0 out.length),(7,.int .i64 k),(8,.ptr 1 0),(9,.ref 2 ((x.attrs.take 5).take q).length),(10,.int .i64 q)],
     [some (.arr aC 5 (out.map Node.v)),some (.box [.int .i64 x.kind,.str (sI x.name),.seq 2 (x.attrs.map Attr.v),.str (sI x.text),.seq 5 (ck.1.map Node.v)]),some (.arr bT 2 ((((x.attrs.take 5).take q).map TZ).map Attr.v))]⟩)
     (fun q=>q<=(x.attrs.take 5).length) (fun q=>(x.attrs.take 5).length-q) [.r 9 bT 2] _ 0 rfl (by simp) (by simp) ?_
    rintro j hj N2 hN2;have hjl:((x.attrs.take 5).take j).length=j:=by rw[zAe];omega
    rcases place (x.attrs.take 5) j hj with⟨he2,hd2⟩|⟨hlt2,y,hy,hd2⟩
    ·have htk:(x.attrs.take 5).take j=x.attrs.take 5:=zAi (by omega)
     rw[htk]at hjl⊢;have hjj:(j<x.attrs.length/\j=5)\/j=x.attrs.length:=by omega
     rcases hjj with hjj|hjj
     all_goals
      simp(disch:=omega) [-zAa,hjj,hjl];refine hN.out _<|Nx.mk (k+1,ck.2,out++[⟨x.kind,sI x.name,(x.attrs.take 5).map TZ,sI x.text,ck.1⟩]) (by simp) ⟨by simp only;omega,by simp;omega,by simpa using hi.out⟩ (by simp only;omega)
    ·have hy2:x.attrs[j]?=some y:=by rw[zAf]at hy;simpa[show j<5 by omega]using hy
     rw[hjl];simp(disch:=omega) [-zAa,hy2,hjl];refine ay (l7 _) rfl ?_;simp(disch:=omega) [-zAa,hy2,hjl];refine ay (l7 _) rfl ?_;simp(disch:=omega) [-zAa,hy2,hjl];refine hN2.out _<|Nx.mk (j+1) ?_ (by omega) (by omega)
     have hjl2:((x.attrs.take 5).take (j+1)).length=j+1:=by rw[zAe];omega
     rw[hjl2,dv hy];simp[TZ]
 have all:∀l:List Node,∀n∈l,∀m:Nat,m<=1000->Fn Tryz.prog lX [.seq 5 (n.kids.map Node.v),.int .i64 m] (.tup [.seq 5 ((dX n.kids m).1.map Node.v),.int .i64 (dX n.kids m).2]):=by
  refine aw (fun x hx=>by cases hx) ?_
  intro n l h1 h2 x hx;rcases zAh.1 hx with rfl|hx
  ·exact key _ h1
  ·exact h2 x hx
 exact fun l=>key l (all l)
theorem Oz(l:List Node):Fn Tryz.prog MU [.seq 5 (l.map Node.v)] (.seq 5 ((dX l 40).1.map Node.v)):=by
 refine yoA Nz ?_;simp(disch:=omega) [-zAa];refine al (OA l 40 (by omega)) (by simp) fun _=>?_
 simp(disch:=omega) [-zAa]
def RZ:List Str:=[[97],[98],[112],[117,108],[108,105],[98,114],[105,109,103],[100,105,118],[115,99,114,105,112,116],[120,45,121]]
def A9(s:Str):Str:=if named s then s else(RZ[sumB s%10]?).getD []
theorem La(s:Str)(hs:s.length<=1000000):Fn Tryz.prog Jc [.str s] (.str (A9 s)):=by
 refine yoA JX ?_;simp(disch:=omega) [-zAa]
 refine ak (fun(p:Nat×Nat)=>⟨[(0,.str s),(3,.seq 1 (RZ.map .str)),(4,.int .i64 p.2),(5,.int .i64 p.1)],[]⟩)
  (fun p=>p.1<=s.length/\p.2<=255*p.1/\p.2+sumB (s.drop p.1)=sumB s) (fun p=>s.length-p.1) [] _ (0,0) rfl (by simp[RZ]) (by simp) ?_
 rintro⟨k,n⟩ ⟨hk,hn,hi⟩ N hN;simp only at hk hn hi;rcases place s k hk with⟨he,hd⟩|⟨hlt,x,hx,hd⟩<;>rw[hd,sumB]at hi
 ·have hm:n%10<10:=zDa _ (by decide)
  have ht:((n:Int)%10).toNat=n%10:=by omega
  obtain⟨y,hy⟩:=aP (l:=RZ) (k:=n%10) hm;have hpl:RZ.length=10:=rfl;simp only[zDd]at hi;simp(disch:=omega) [-zAa,he];refine ac (iI s) rfl fun _=>?_;simp(disch:=omega) [-zAa];refine BrK.mk (fun h=>?_) (fun h=>?_)
  ·simp(disch:=omega) [-zAa]
   simp[A9,h]
  ·simp(disch:=omega) [-zAa,hpl,ht,hy]
   simp[A9,h,<-hi,hy]
 ·have hx8:=x.toNat_lt
  simp(disch:=omega) [-zAa,hx];refine hN.out _<|Nx.mk (k+1,n+x.toNat) (by simp) ⟨by simp only;omega,by simp only;omega,by simp only;omega⟩ (by simp only;omega)
def fd(b:UInt8):Bool:=(decide (65<=b.toNat)&&decide (b.toNat<=90))||(decide (b.toNat=9)||(decide (b.toNat=10)||(decide (b.toNat=12)||(decide (b.toNat=32)||(decide (b.toNat=47)||(decide (b.toNat=62)||decide (b.toNat=61)))))))
def eX(s:Str):Bool:=s.all (fun b=>!fd b)&&(decide (dx s=s)&&decide (0<s.length))
theorem lg(s:Str)(hs:s.length<=1000000):Fn Tryz.prog uu [.str s] (.bool (eX s)):=by
 refine yoA uD ?_;simp(disch:=omega) [-zAa];refine ac (uU s hs) rfl fun _=>?_;simp(disch:=omega) [-zAa];generalize hr:eX s=r;refine ak (fun k:Nat=>⟨[(0,.str s),(3,.bool (decide (dx s=s))),(4,.int .i64 k)],[]⟩) (fun k=>k<=s.length/\((s.drop k).all (fun b=>!fd b)&&(decide (dx s=s)&&decide (0<s.length)))=r) (fun k=>s.length-k) [] _ 0 rfl (by simp[*]) (by simp[*,<-hr,eX]) ?_
 rintro k ⟨hk,hi⟩ N hN;rcases place s k hk with⟨he,hd⟩|⟨hlt,x,hx,hd⟩<;>rw[hd]at hi<;>replace hi:=hid hi
 ·have hi:=hi.out
  simp(disch:=omega) [-zAa,he]
  repeat' (first|(refine BrKd.mk (fun h=>?_) (fun h=>?_)<;>simp(disch:=omega) [*])|(refine BrK.mk (fun h=>?_) (fun h=>?_)<;>simp(disch:=omega) [*]))
  all_goals (first|simpa[*]using hi|(simp[*]at hi;simp[<-hi, *]))
 ·simp only[zBb]at hi
  have no:fd x=true->r=false:=fun h=>by have hi:=hi.out;simpa[h]using hi.symm
  have go:fd x=false->((s.drop (k+1)).all (fun b=>!fd b)&&(decide (dx s=s)&&decide (0<s.length)))=r:=fun h=>by have hi:=hi.out;rw[h]at hi;simpa using hi
  replace no:=hid no;replace go:=hid go;simp(disch:=omega) [-zAa,hx]
  repeat' (first|(refine BrKd.mk (fun h=>?_) (fun h=>?_)<;>simp(disch:=omega) [*])|(refine BrK.mk (fun h=>?_) (fun h=>?_)<;>simp(disch:=omega) [*]))
  all_goals first
   |(refine hN.out _<|Nx.mk (k+1) (by simp[*]) ⟨by omega,go.out ?_⟩ (by omega);simp[fd, *];done)
   |(refine hN.out _<|Nx.mk (k+1) (by simp[*]) ⟨by omega,go.out ?_⟩ (by omega);unfold fd;simp;omega)
   |(rw[no.out ?_];simp[fd, *];done)
   |(refine(no.out ?_);simp[fd, *];done)
   |(refine(no.out ?_).symm;simp[fd, *];done)
def Wm:List Str:=[[105,100],[104,114,101,102],[116,105,116,108,101],[100,97,116,97,45,97],[111,110,99,108,105,99,107]]
def dj(s:Str):Str:=if eX s then s else(Wm[s.length%5]?).getD []
theorem wq(s:Str)(hs:s.length<=1000000):Fn Tryz.prog vL [.str s] (.str (dj s)):=by
 refine yoA vZ ?_;simp(disch:=omega) [-zAa];refine ac (lg s hs) rfl fun _=>?_;simp(disch:=omega) [-zAa];have hm:s.length%5<5:=zDa _ (by decide)
 have ht:((s.length:Int)%5).toNat=s.length%5:=by omega
 obtain⟨y,hy⟩:=aP (l:=Wm) (k:=s.length%5) hm
 have hy2:([.str [105,100],.str [104,114,101,102],.str [116,105,116,108,101],.str [100,97,116,97,45,97],.str [111,110,99,108,105,99,107]]:List V)[s.length%5]?=some (.str y):=by
  have:(Wm.map V.str)[s.length%5]?=some (.str y):=by rw[zBi,hy];rfl
  exact this
 refine BrK.mk (fun h=>?_) (fun h=>?_)
 ·simp(disch:=omega) [-zAa]
  simp[dj,h]
 ·simp(disch:=omega) [-zAa,ht,hy2]
  simp[dj,h,hy]
def ax:List Node->List Node->List Node
 |out,[]=>out
 |out,n::l=>
   if n.kind=2/\n.text=[]then ax out l
   else match out[out.length-1]? with
    |some o=>if n.kind=2/\o.kind=2 then ax (out.set (out.length-1) ⟨o.kind,o.name,o.attrs,o.text++n.text,o.kids⟩) l else ax (out++[n]) l
    |none=>ax (out++[n]) l
def aW(l:List Node):List Node:=ax [] l
theorem td(l:List Node)(hl:l.length<=1000000)(ht:∀n∈l,n.text.length<=1000000):Fn Tryz.prog Eo [.seq 5 (l.map Node.v)] (.seq 5 ((aW l).map Node.v)):=by
 refine yoA Fd ?_;simp(disch:=omega) [-zAa];generalize hw:aW l=w
 refine ak (fun(q:Nat×List Node)=>⟨[(0,.seq 5 (l.map Node.v)),(3,.ref 0 q.2.length),(4,.int .i64 q.1)],[some (.arr aC 5 (q.2.map Node.v))]⟩)
  (fun q=>q.1<=l.length/\q.2.length<=q.1/\(∀n∈q.2,n.text.length<=1000000*q.1)/\ax q.2 (l.drop q.1)=w) (fun q=>l.length-q.1) [.r 3 aC 5] _ (0,[]) rfl (by simp) (by simp[<-hw,aW]) ?_
 rintro⟨k,out⟩ ⟨hk,hol,htx,hi⟩ N hN;simp only at hk hol htx hi;rcases place l k hk with⟨he,hd⟩|⟨hlt,x,hx,hd⟩<;>rw[hd]at hi
 ·simp[ax]at hi
  subst hi;simp(disch:=omega) [-zAa,he]
 ·have hxt:=ht x (zAb hx)
  simp only[ax]at hi;by_cases h2:x.kind=2
  ·by_cases ht0:x.text=[]
   ·rw[if_pos ⟨h2,ht0⟩]at hi
    replace hi:=hid hi;simp(disch:=omega) [-zAa,hx,h2,ht0];refine hN.out _<|Nx.mk (k+1,out) (by simp) ⟨by simp only;omega,by simp only;omega,fun n hn=>by have:=htx n hn;simp only;omega,hi.out⟩ (by simp only;omega)
   ·rw[if_neg (fun h=>ht0 h.2)]at hi
    rcases zBe out.length with h0|h0
    ·have ho0:out=[]:=zAg h0
     subst ho0;simp only[List.getElem?_nil,List.nil_append]at hi;replace hi:=hid hi;simp(disch:=omega) [-zAa,hx,h2,ht0];refine hN.out _<|Nx.mk (k+1,[x]) (by simp[h2]) ⟨by simp only;omega,by simp,fun n hn=>by simp at hn;subst hn;simp only;omega,hi.out⟩ (by simp only;omega)
    ·obtain⟨o,ho⟩:=aP (l:=out) (k:=out.length-1) (by omega)
     rw[ho]at hi;simp only at hi;have hot:=htx o (zAb ho);have hoz:((out.length:Int)-1).toNat=out.length-1:=by omega
     replace hi:=hid hi;simp(disch:=omega) [-zAa,hx,h2,ht0,hoz,ho];refine BrKd.mk (fun hk2=>?_) (fun hk2=>?_)
     ·simp(disch:=omega) [-zAa,hx,h2,ht0,hoz,ho,hk2]
      have hi:=hi.out;rw[if_pos ⟨h2,hk2⟩]at hi;refine hN.out _<|Nx.mk (k+1,out.set (out.length-1) ⟨o.kind,o.name,o.attrs,o.text++x.text,o.kids⟩) (by simp[zDe,hk2]) ⟨by simp only;omega,by simp;omega,?_,hi⟩ (by simp only;omega)
      intro n hn;rcases zBj hn with hn|rfl
      ·have:=htx n hn;simp only;omega
      ·simp only[zBa];omega
     ·simp(disch:=omega) [-zAa,hx,h2,ht0,hoz,ho,hk2]
      have hi:=hi.out;rw[if_neg (fun h=>hk2 h.2)]at hi;refine hN.out _<|Nx.mk (k+1,out++[x]) (by simp[h2]) ⟨by simp only;omega,by simp;omega,?_,hi⟩ (by simp only;omega)
      intro n hn;simp only[zBd,zCd]at hn;rcases hn with hn|rfl
      ·have:=htx n hn;simp only;omega
      ·simp only;omega
  ·rw[if_neg (fun h=>h2 h.1)]at hi
   have hi2:ax (out++[x]) (l.drop (k+1))=w:=by
    split at hi
    ·rw[if_neg (fun h=>h2 h.1)]at hi;exact hi
    ·exact hi
   clear hi;replace hi2:=hid hi2;simp(disch:=omega) [-zAa,hx,h2];refine hN.out _<|Nx.mk (k+1,out++[x]) (by simp) ⟨by simp only;omega,by simp;omega,?_,hi2.out⟩ (by simp only;omega)
   intro n hn;simp only[zBd,zCd]at hn;rcases hn with hn|rfl
   ·have:=htx n hn;simp only;omega
   ·simp only;omega
end Go.Abs.F
end
section
namespace Go.Abs.F
open Go.Proofs
attribute [-simp] getElem?_pos zCg List.map_map
def HK(k:Int):Int:=if k<1\/3<k then 1 else k
def o9:List Attr->List Attr->List Attr
 |acc,[]=>acc
 |acc,a::l=>o9 (if(ii acc (dj a.name)).isSome then acc else acc++[⟨dj a.name,dx a.value⟩]) l
mutual
def cE:Node->Node
 |⟨k,nm,a,t,ks⟩=>if HK k=1 then⟨1,A9 nm,o9 [] a,[],aW (CX ks)⟩else⟨HK k,[],[],dx t,[]⟩
def CX:List Node->List Node
 |[]=>[]
 |n::l=>cE n::CX l
end
theorem CW:∀l:List Node,CX l=l.map cE
 |[]=>by simp[CX]
 |n::l=>by simp[CX,CW l]
theorem k8(n:Node):cE n=if HK n.kind=1 then⟨1,A9 n.name,o9 [] n.attrs,[],aW (n.kids.map cE)⟩else⟨HK n.kind,[],[],dx n.text,[]⟩:=by
 cases n;simp[cE,CW]
def H5(n:Node):Prop:=n.name.length<=1000/\n.text.length<=1000/\n.attrs.length<=1000/\∀a∈n.attrs,a.name.length<=1000/\a.value.length<=1000
theorem nI(s:Str):(dx s).length<=4*s.length:=by
 have h1:=GV (i9 none (dK s));have h2:=Om (dK s) none;have h3:=G3 s.length s (zBh _);unfold dx;omega
theorem QC(n:Node)(h:H5 n):(cE n).text.length<=4000:=by
 rw[k8];split
 ·simp
 ·have:=nI n.text;have:=h.2.1;simp only;omega
theorem Lb:∀(l:List Node),an H5 l->ai l<=1000->Fn Tryz.prog j9 [.seq 5 (l.map Node.v)] (.seq 5 ((aW (l.map cE)).map Node.v)):=by
 have key:∀l:List Node,(∀n∈l,an H5 n.kids->ai n.kids<=1000->Fn Tryz.prog j9 [.seq 5 (n.kids.map Node.v)] (.seq 5 ((aW (n.kids.map cE)).map Node.v)))->
  an H5 l->ai l<=1000->Fn Tryz.prog j9 [.seq 5 (l.map Node.v)] (.seq 5 ((aW (l.map cE)).map Node.v)):=by
  intro l hrec hfi hc;refine yoA JY ?_;have hlen:=dr l;simp(disch:=omega) [-zAa]
  refine ak (fun(k:Nat)=>⟨[(0,.seq 5 (l.map Node.v)),(3,.ref 0 k),(4,.int .i64 k)],[some (.arr aC 5 (((l.take k).map cE).map Node.v))]⟩)
   (fun k=>k<=l.length) (fun k=>l.length-k) [.r 3 aC 5] _ 0 rfl (by simp) (by simp) ?_
  rintro k hk N hN;have hkl:(l.take k).length=k:=by rw[zAe];omega
  rcases place l k hk with⟨he,hd⟩|⟨hlt,x,hx,hd⟩
  ·have htk:l.take k=l:=zAi (by omega)
   rw[htk];simp(disch:=omega) [-zAa,he];refine dP (td (l.map cE) (by simp;omega) (fun n hn=>?_)) fun _=>?_
   ·obtain⟨y,hy,rfl⟩:=zCe.1 hn
    have:=QC y (ep hfi hy).1;omega
   ·simp(disch:=omega) [-zAa]
  ·have hxm:=zAb hx
   obtain⟨hfx,hfk⟩:=ep hfi hxm;obtain⟨hx1,hx2,hx3,hx4⟩:=hfx;have hcx:=wH hxm
   have fin:∀τ:St,τ.nrm [0,3,4]=⟨[(0,.seq 5 (l.map Node.v)),(3,.ref 0 (k+1)),(4,.int .i64 ((k+1:Nat):Int))],[some (.arr aC 5 (((l.take k).map cE).map Node.v++[(cE x).v]))]⟩->N τ:=by
    intro τ h;refine hN.out _<|Nx.mk (k+1) ?_ (by omega) (by omega)
    rw[h,dv hx];simp
   have hkind:x.kind<1\/3<x.kind\/x.kind=1\/x.kind=2\/x.kind=3:=by omega
   rcases hkind with h|h|h|h|h
   case inr.inr.inr.inr.inl|inr.inr.inr.inr.inr=>
    have hg:cE x=⟨x.kind,[],[],dx x.text,[]⟩:=by
     rw[k8,h];simp[HK]
    simp(disch:=omega) [-zAa,hx,h,hkl];refine ac (by simpa using mA x.text (by omega)) rfl fun _=>?_
    simp(disch:=omega) [-zAa,hkl];refine fin _ ?_;rw[hg,h];simp
   all_goals
    have hg:cE x=⟨1,A9 x.name,o9 [] x.attrs,[],aW (x.kids.map cE)⟩:=by
     rw[k8,if_pos];unfold HK;split<;>omega
    simp(disch:=omega) [-zAa,hx,h,hkl];refine ac (La x.name (by omega)) rfl fun _=>?_
    simp(disch:=omega) [-zAa,hkl];generalize hga:o9 [] x.attrs=GA at hg
    refine ak (fun(q:Nat×List Attr)=>⟨[(0,.seq 5 (l.map Node.v)),(3,.ref 0 k),(4,.int .i64 k),(5,.ptr 1 0),(6,.int .i64 q.1)],
     [some (.arr aC 5 (((l.take k).map cE).map Node.v)),some (.box [.int .i64 1,.str (A9 x.name),.ref 2 q.2.length,.str [],.nil 5]),some (.arr bT 2 (q.2.map Attr.v))]⟩)
     (fun q=>q.1<=x.attrs.length/\q.2.length<=q.1/\o9 q.2 (x.attrs.drop q.1)=GA) (fun q=>x.attrs.length-q.1) [.b 1 2 bT 2] _ (0,[]) rfl (by simp) (by simp[hga]) ?_
    rintro⟨j,acc⟩ ⟨hj,hal,hi⟩ N2 hN2;simp only at hj hal hi;rcases place x.attrs j hj with⟨he2,hd2⟩|⟨hlt2,y,hy,hd2⟩<;>rw[hd2]at hi
    ·simp only[o9]at hi
     subst hi;simp(disch:=omega) [-zAa,hx,he2];refine al (hrec x hxm hfk (by omega)) (by simp) fun _=>?_
     simp(disch:=omega) [-zAa,hkl];refine fin _ ?_;rw[hg];simp
    ·obtain⟨hy1,hy2⟩:=hx4 y (zAb hy)
     simp only[o9]at hi;replace hi:=hid hi;simp(disch:=omega) [-zAa,hx,hy];refine ay (wq y.name (by omega)) rfl ?_
     simp(disch:=omega) [-zAa,hx,hy];refine ay (by simpa using mA y.value (by omega)) rfl ?_
     simp(disch:=omega) [-zAa,hx,hy];refine ac (by simpa using tc ⟨1,A9 x.name,acc,[],[]⟩ (dj y.name)) rfl fun _=>?_
     simp(disch:=omega) [-zAa,hx,hy];refine BrK.mk (fun hb=>?_) (fun hb=>?_)
     ·simp(disch:=omega) [-zAa]
      have hi:=hi.out;rw[if_pos hb]at hi;refine hN2.out _<|Nx.mk (j+1,acc) (by simp) ⟨by simp only;omega,by simp only;omega,hi⟩ (by simp only;omega)
     ·simp(disch:=omega) [-zAa,hkl]
      have hi:=hi.out;rw[if_neg (by simp[hb])]at hi
      refine hN2.out _<|Nx.mk (j+1,acc++[⟨dj y.name,dx y.value⟩]) (by simp) ⟨by simp only;omega,by simp;omega,hi⟩ (by simp only;omega)
 have all:∀l:List Node,∀n∈l,an H5 n.kids->ai n.kids<=1000->Fn Tryz.prog j9 [.seq 5 (n.kids.map Node.v)] (.seq 5 ((aW (n.kids.map cE)).map Node.v)):=by
  refine aw (fun x hx=>by cases hx) ?_
  intro n l h1 h2 x hx;rcases zAh.1 hx with rfl|hx
  ·exact key _ h1
  ·exact h2 x hx
 exact fun l=>key l (all l)
theorem Um:∀(l:List Node)(m:Nat),an H5 (dX l m).1:=by
 refine aw (fun m=>by simp[dX,an]) ?_
 intro n l h1 h2 m;simp only[dX,A1];split
 ·simp[an]
 ·simp only[an,O8]
  refine⟨⟨⟨by simp[sI];omega,by simp[sI];omega,by simp;omega,fun a ha=>?_⟩,h1 _⟩,h2 _⟩
  simp only[zCe]at ha;obtain⟨b,_,rfl⟩:=ha;simp[TZ,sI];omega
def eP(l:List Node):List Node:=aW ((dX l 40).1.map cE)
theorem wv(l:List Node):Fn Tryz.prog Je [.seq 5 (l.map Node.v)] (.seq 5 ((eP l).map Node.v)):=by
 refine yoA J2 ?_;simp(disch:=omega) [-zAa];refine al (Oz l) (by simp) fun _=>?_
 simp(disch:=omega) [-zAa];refine al (Lb (dX l 40).1 (Um l 40) (by have:=wG l 40;omega)) (by simp) fun _=>?_
 simp(disch:=omega) [-zAa,eP]
def i5(w:Str):Str->Bool
 |[]=>fK [] w
 |b::t=>fK (b::t) w||i5 w t
theorem Cv(w:Str):∀s:Str,s.length<w.length->i5 w s=false
 |[],h=>by simp[i5,fK];intro h';subst h';simp at h
 |b::t,h=>by
   have:=Cv w t (by simp at h;omega)
   simp only[i5,this,Bool.or_false,fK,Bool.and_eq_false_iff,decide_eq_false_iff_not];left;omega
theorem TR(w:Str)(s:Str)(h:w.length<=s.length):i5 w s=(decide (s.take w.length=w)||(if s=[]then false else i5 w s.tail)):=by
 cases s with
 |nil=>have:w=[]:=zAg (by simpa using h);subst this;simp[i5,fK]
 |cons b t=>
   simp only[zAd]at h;simp[i5,fK,decide_eq_true h]
theorem zp(s w:Str)(hw0:0<w.length)(hs:s.length<=1000000000)(hwl:w.length<=1000000000):Fn Tryz.prog MR [.str s,.str w] (.bool (i5 w s)):=by
 refine yoA Ns ?_;simp(disch:=omega) [-zAa];generalize hr:i5 w s=r;refine ak (fun k:Nat=>⟨[(0,.str s),(1,.str w),(5,.int .i64 k)],[]⟩) (fun k=>k<=s.length/\i5 w (s.drop k)=r) (fun k=>s.length-k) [] _ 0 rfl (by simp) (by simp[hr]) ?_
 rintro k ⟨hk,hi⟩ N hN;by_cases hlt:k+w.length<=s.length
 ·rw[TR w _ (by simp;omega),if_neg (by simp;omega),List.tail_drop]at hi
  replace hi:=hid hi;have e:((k:Int)+(w.length:Int)).toNat-k=w.length:=by omega
  simp(disch:=omega) [-zAa,e];refine BrKd.mk (fun h=>?_) (fun h=>?_)
  ·simp(disch:=omega) [-zAa]
   have hi:=hi.out;simpa[h]using hi
  ·simp(disch:=omega) [-zAa]
   have hi:=hi.out;refine hN.out _<|Nx.mk (k+1) (by simp) ⟨by omega,by simpa[h]using hi⟩ (by omega)
 ·rw[Cv w _ (by simp;omega)]at hi
  subst hi;simp(disch:=omega) [-zAa]
def eB(b:UInt8):UInt8:=if 65<=b.toNat/\b.toNat<=90 then b8 (b.toNat+32)else b
theorem Le(s:Str)(hs:s.length<=1000000000):Fn Tryz.prog Jg [.str s] (.str (s.map eB)):=by
 refine yoA J4 ?_;simp(disch:=omega) [-zAa]
 refine ak (fun(k:Nat)=>⟨[(0,.str s),(3,.ref 0 k),(4,.int .i64 k)],[some (.arr kD 1 (((s.take k).map eB).map bV))]⟩)
  (fun k=>k<=s.length) (fun k=>s.length-k) [.r 3 kD 1] _ 0 rfl (by simp) (by simp) ?_
 rintro k hk N hN;have hkl:(s.take k).length=k:=by rw[zAe];omega
 rcases place s k hk with⟨he,hd⟩|⟨hlt,x,hx,hd⟩
 ·have htk:s.take k=s:=zAi (by omega)
  rw[htk];simp(disch:=omega) [-zAa,he,-Sp]
 ·simp(disch:=omega) [-zAa,hx]
  have fin:∀τ:St,τ.nrm [0,3,4]=⟨[(0,.str s),(3,.ref 0 (k+1)),(4,.int .i64 ((k+1:Nat):Int))],[some (.arr kD 1 (((s.take k).map eB).map bV++[bV (eB x)]))]⟩->N τ:=by
   intro τ h;refine hN.out _<|Nx.mk (k+1) ?_ (by omega) (by omega)
   rw[h,dv hx];simp
  repeat' (first
   |(refine BrKd.mk (fun h=>?_) (fun h=>?_)<;>simp(disch:=omega) [hkl, *])
   |(refine BrK.mk (fun h=>?_) (fun h=>?_)<;>simp(disch:=omega) [hkl, *]))
  all_goals
   first
   |(have hf:eB x=b8 (x.toNat+32):=by rw[eB,if_pos (by omega)])
   |(have hf:eB x=x:=by rw[eB,if_neg (by omega)])
   refine fin _ ?_;rw[hf];simp(disch:=omega) [bf]
def OV(b:UInt8):Bool:=decide (b.toNat=9)||(decide (b.toNat=10)||(decide (b.toNat=12)||decide (b.toNat=32)))
theorem Gt(b:UInt8):Fn Tryz.prog Ek [.int .u8 b.toNat] (.bool (OV b)):=by
 refine yoA E9 ?_;simp(disch:=omega) [-zAa,OV]
 repeat' (first|(refine BrKd.mk (fun h=>?_) (fun h=>?_)<;>simp(disch:=omega) [*])|(refine BrK.mk (fun h=>?_) (fun h=>?_)<;>simp(disch:=omega) [*]))
def GF(b:UInt8):Bool:=OV b||(decide (b.toNat=47)||decide (b.toNat=62))
def wC(nm:Str)(s:Str):Bool:=decide ((s.take (2+nm.length)).map eB=[60,47]++nm)&&(match s[2+nm.length]? with
 |some c=>GF c
 |none=>false)
def eS(nm:Str):Nat->Str->Int
 |_,[]=>-1
 |i,b::t=>if wC nm (b::t)then i else eS nm (i+1) t
def ends(s nm:Str):Int:=eS nm 0 s
theorem wB(nm:Str):∀(s:Str)(i:Nat),s.length<=2+nm.length->eS nm i s=-1
 |[],i,h=>rfl
 |b::t,i,h=>by
   have:=wB nm t (i+1) (by simp at h;omega)
   simp only[eS,this];rw[if_neg];simp only[wC,Bool.and_eq_true,not_and,zCj];intro _;rw[List.getElem?_eq_none (by omega)]
theorem K9(s nm:Str)(hs:s.length<=1000000000)(hn:nm.length<=1000000):Fn Tryz.prog Ja [.str s,.str nm] (.int .i64 (ends s nm)):=by
 refine yoA JW ?_;simp(disch:=omega) [-zAa];generalize hr:ends s nm=r;refine ak (fun k:Nat=>⟨[(0,.str s),(1,.str nm),(5,.int .i64 (2+nm.length)),(6,.int .i64 k)],[]⟩) (fun k=>k<=s.length/\eS nm k (s.drop k)=r) (fun k=>s.length-k) [] _ 0 rfl (by simp) (by simp[<-hr,ends]) ?_
 rintro k ⟨hk,hi⟩ N hN;by_cases hlt:k+(2+nm.length)<s.length
 ·obtain⟨x,hx⟩:=aP (l:=s) (k:=k) (by omega)
  obtain⟨c,hc⟩:=aP (l:=s) (k:=k+(2+nm.length)) hlt;have hd:=ce hx
  have hat:wC nm (s.drop k)=(decide (((s.drop k).take (2+nm.length)).map eB=[60,47]++nm)&&GF c):=by
   simp only[wC,List.getElem?_drop,hc]
  rw[hd]at hi;simp only[eS]at hi;rw[<-hd,hat]at hi;replace hi:=hid hi;have hkt:((k:Int)+(2+(nm.length:Int))).toNat=k+(2+nm.length):=by omega
  simp(disch:=omega) [-zAa,hkt,hc];have hlb:((s.drop k).take (2+nm.length)).length<=1000000000:=by simp;omega
  refine ac (Le _ hlb) rfl fun _=>?_;generalize hT:((s.drop k).take (2+nm.length)).map eB=T at hi;have no:(decide (T=[60,47]++nm)&&GF c)=false->eS nm (k+1) (s.drop (k+1))=r:=fun h=>by have hi:=hi.out;rw[if_neg (by rw[h];exact Bool.false_ne_true)]at hi;exact hi
  have yes:(decide (T=[60,47]++nm)&&GF c)=true->r=k:=fun h=>by have hi:=hi.out;rw[if_pos h]at hi;exact hi.symm
  replace no:=hid no;replace yes:=hid yes;simp(disch:=omega) [-zAa]
  repeat' (first
   |(refine BrKd.mk (fun h=>?_) (fun h=>?_)<;>simp(disch:=omega) [*])
   |(refine BrK.mk (fun h=>?_) (fun h=>?_)<;>simp(disch:=omega) [*])
   |(refine ac (Gt _) rfl (fun _=>?_)<;>simp(disch:=omega) [*]))
  all_goals first
   |(refine hN.out _<|Nx.mk (k+1) (by simp) ⟨by omega,no.out ?_⟩ (by omega);simp_all[GF];done)
   |(rw[yes.out ?_];simp_all[GF];done)
   |(refine(yes.out ?_).symm;simp_all[GF];done)
 ·rw[wB nm _ _ (by simp;omega)]at hi
  subst hi;simp(disch:=omega) [-zAa]
def bn(par:Str)(n:Node):Bool:=
 if DO par then false
 else if raw par then decide (n.kind=2)&&decide (ends (n.text++[60,47]++par++[62]) par=n.text.length)
 else !decide (n.kind=1)|| !mD par n.name
theorem wo(par:Str)(n:Node)(hp:par.length<=1000000)(ht:n.text.length<=100000000):Fn Tryz.prog I9 [.str par,n.v] (.bool (bn par n)):=by
 refine yoA JV ?_;simp(disch:=omega) [-zAa,bn];refine ac (wu _) rfl fun _=>?_;simp(disch:=omega) [-zAa];refine ac (zq _) rfl fun _=>?_;simp(disch:=omega) [-zAa];refine BrK.mk (fun hv=>?_) (fun hv=>?_)
 ·simp(disch:=omega) [-zAa,hv]
 ·simp(disch:=omega) [-zAa,hv]
  refine BrK.mk (fun hr=>?_) (fun hr=>?_)
  ·simp(disch:=omega) [-zAa,hr]
   refine BrKd.mk (fun hk=>?_) (fun hk=>?_)
   ·simp(disch:=omega) [-zAa,hk]
    have e:n.text++[60,47]++par++[62]=n.text++60::47::(par++[62]):=by simp
    have hE:=K9 (n.text++[60,47]++par++[62]) par (by simp;omega) hp
    rw[e]at hE;refine ay hE rfl ?_;simp(disch:=omega) [-zAa,hk]
   ·simp(disch:=omega) [-zAa,hk]
  ·simp(disch:=omega) [-zAa,hr]
   refine ac (qV _ _) rfl fun _=>?_;simp(disch:=omega) [-zAa]
   repeat' (first|(refine BrKd.mk (fun h=>?_) (fun h=>?_)<;>simp(disch:=omega) [*])|(refine BrK.mk (fun h=>?_) (fun h=>?_)<;>simp(disch:=omega) [*]))
def aq(par:Str)(l:List Node):List Node:=l.filter (bn par)
theorem pe(par:Str)(l:List Node)(hp:par.length<=1000000)(hl:l.length<=1000000)(ht:∀n∈l,n.text.length<=100000000):
 Fn Tryz.prog Ae [.str par,.seq 5 (l.map Node.v)] (.seq 5 ((aq par l).map Node.v)):=by
 refine yoA An ?_;simp(disch:=omega) [-zAa];generalize hw:aq par l=w
 refine ak (fun(q:Nat×List Node)=>⟨[(0,.str par),(1,.seq 5 (l.map Node.v)),(5,.ref 0 q.2.length),(6,.int .i64 q.1)],[some (.arr aC 5 (q.2.map Node.v))]⟩)
  (fun q=>q.1<=l.length/\q.2.length<=q.1/\q.2++aq par (l.drop q.1)=w) (fun q=>l.length-q.1) [.r 5 aC 5] _ (0,[]) rfl (by simp) (by simp[<-hw]) ?_
 rintro⟨k,out⟩ ⟨hk,hol,hi⟩ N hN;simp only at hk hol hi;rcases place l k hk with⟨he,hd⟩|⟨hlt,x,hx,hd⟩<;>rw[hd]at hi
 ·simp[aq]at hi
  subst hi;simp(disch:=omega) [-zAa,he]
 ·simp only[aq,zBf]at hi
  replace hi:=hid hi;simp(disch:=omega) [-zAa,hx];refine ac (by simpa using wo par x hp (ht x (zAb hx))) rfl fun _=>?_
  simp(disch:=omega) [-zAa];refine BrK.mk (fun h=>?_) (fun h=>?_)
  ·simp(disch:=omega) [-zAa,hx]
   have hi:=hi.out;refine hN.out _<|Nx.mk (k+1,out++[x]) (by simp) ⟨by simp only;omega,by simp;omega,?_⟩ (by simp only;omega)
   simpa[h,aq]using hi
  ·simp(disch:=omega) [-zAa,hx]
   have hi:=hi.out;refine hN.out _<|Nx.mk (k+1,out) (by simp) ⟨by simp only;omega,by simp only;omega,?_⟩ (by simp only;omega)
   simpa[h,aq]using hi
def gn:Str:=[45,45,62]
mutual
def aA:Node->List Node
 |⟨k,nm,a,t,ks⟩=>if k=3/\i5 gn t=true then[]else if k=1 then[⟨k,nm,a,t,aq nm (aW (vm (bn nm) ks))⟩]else[⟨k,nm,a,t,ks⟩]
def vm(f:Node->Bool):List Node->List Node
 |[]=>[]
 |n::l=>(if f n then aA n else[])++vm f l
end
theorem Bi(f:Node->Bool):∀l:List Node,vm f l=(l.filter f).flatMap aA
 |[]=>by simp[vm]
 |n::l=>by
   simp only[vm,Bi f l,zBf];cases f n<;>simp
theorem dg(n:Node):aA n=if n.kind=3/\i5 gn n.text=true then[]else if n.kind=1 then[⟨n.kind,n.name,n.attrs,n.text,aq n.name (aW ((aq n.name n.kids).flatMap aA))⟩]else[n]:=by
 cases n;simp[aA,Bi,aq]
def cI(l:List Node):List Node:=aW (l.flatMap aA)
def br(l:List Node):Nat:=(l.map fun n=>n.text.length).sum
theorem mS:∀{l:List Node}{n:Node},n∈l->n.text.length<=br l
 |[],n,h=>by cases h
 |x::l,n,h=>by
   simp only[br,zAj,zCa];rcases zAh.1 h with rfl|h
   ·omega
   ·have:=mS h;simp only[br]at this;omega
theorem pZ(a b:List Node):br (a++b)=br a+br b:=by simp[br]
theorem lI(f:Node->Bool):∀l:List Node,br (l.filter f)<=br l
 |[]=>by simp[br]
 |n::l=>by
   have:=lI f l;simp only[br,zBf]at *;split<;>simp<;>omega
theorem LR:∀(l:List Node)(i:Nat)(o n:Node),l[i]?=some o->br (l.set i n)+o.text.length=br l+n.text.length
 |[],i,o,n,h=>by simp at h
 |x::l,0,o,n,h=>by simp at h;subst h;simp[br];omega
 |x::l,i+1,o,n,h=>by
   have:=LR l i o n (by simpa using h)
   simp only[br,zCf,zAj,zCa]at *;omega
theorem ke:∀(l out:List Node),(ax out l).length<=out.length+l.length/\br (ax out l)<=br out+br l
 |[],out=>by simp[ax,br]
 |n::l,out=>by
   have hc:br (n::l)=n.text.length+br l:=by simp[br]
   have h1:=ke l out;have h2:=ke l (out++[n]);rw[pZ]at h2;have hn:br [n]=n.text.length:=by simp[br]
   simp only[zBa,zAd,zBc]at h2;simp only[ax,zAd];split
   ·omega
   ·split
    ·rename_i o ho
     split
     ·have h3:=ke l (out.set (out.length-1) ⟨o.kind,o.name,o.attrs,o.text++n.text,o.kids⟩)
      have h4:=LR out (out.length-1) o ⟨o.kind,o.name,o.attrs,o.text++n.text,o.kids⟩ ho;simp only[List.length_set,zBa]at h3 h4;omega
     ·omega
    ·omega
theorem kQ(l:List Node):(aW l).length<=l.length/\br (aW l)<=br l:=by
 have:=ke l [];simpa[aW,br]using this
theorem ID(n:Node):(aA n).length<=1/\br (aA n)<=n.text.length:=by
 rw[dg];split
 ·simp[br]
 ·split<;>simp[br]
theorem nB:∀l:List Node,(l.flatMap aA).length<=l.length/\br (l.flatMap aA)<=br l
 |[]=>by simp[br]
 |n::l=>by
   have h1:=ID n;have h2:=nB l;have hc:br (n::l)=n.text.length+br l:=by simp[br]
   simp only[zCi,zBa,pZ,zAd];omega
theorem Gg(par:Str)(l:List Node):(aq par l).length<=l.length/\br (aq par l)<=br l:=⟨List.length_filter_le _ _,lI _ _⟩
def HZ(n:Node):Prop:=n.name.length<=1000/\n.kids.length<=1000/\br n.kids<=1000000
theorem Da:∀(l:List Node),an HZ l->l.length<=1000->br l<=1000000->Fn Tryz.prog gG [.seq 5 (l.map Node.v)] (.seq 5 ((cI l).map Node.v)):=by
 have key:∀l:List Node,(∀n∈l,∀l':List Node,(∀y∈l',y∈n.kids)->an HZ n.kids->l'.length<=1000->br l'<=1000000->Fn Tryz.prog gG [.seq 5 (l'.map Node.v)] (.seq 5 ((cI l').map Node.v)))->
  (∀n∈l,HZ n/\an HZ n.kids)->l.length<=1000->br l<=1000000->Fn Tryz.prog gG [.seq 5 (l.map Node.v)] (.seq 5 ((cI l).map Node.v)):=by
  intro l hrec hfi hlen hts;refine yoA Ck ?_;simp(disch:=omega) [-zAa];generalize hw:l.flatMap aA=w;have hws:=nB l;rw[hw]at hws
  refine ak (fun(q:Nat×List Node)=>⟨[(0,.seq 5 (l.map Node.v)),(3,.ref 0 q.2.length),(4,.int .i64 q.1)],[some (.arr aC 5 (q.2.map Node.v))]⟩)
   (fun q=>q.1<=l.length/\q.2.length<=q.1/\q.2++(l.drop q.1).flatMap aA=w) (fun q=>l.length-q.1) [.r 3 aC 5] _ (0,[]) rfl (by simp) (by simp[<-hw]) ?_
  rintro⟨k,out⟩ ⟨hk,hol,hi⟩ N hN;simp only at hk hol hi;rcases place l k hk with⟨he,hd⟩|⟨hlt,x,hx,hd⟩<;>rw[hd]at hi
  ·simp at hi
   subst hi;simp(disch:=omega) [-zAa,he];refine dP (td out (by omega) (fun n hn=>by have:=mS hn;omega)) fun _=>?_
   simp(disch:=omega) [-zAa,cI,hw]
  ·have hxm:=zAb hx
   obtain⟨⟨hx1,hx2,hx3⟩,hxk⟩:=hfi x hxm;have hxt:=mS hxm;rw[zCi,dg]at hi;replace hi:=hid hi
   have fin:∀τ:St,∀o2:List Node,τ.nrm [0,3,4]=⟨[(0,.seq 5 (l.map Node.v)),(3,.ref 0 o2.length),(4,.int .i64 ((k+1:Nat):Int))],[some (.arr aC 5 (o2.map Node.v))]⟩->o2.length<=k+1->o2++(l.drop (k+1)).flatMap aA=w->N τ:=by
    intro τ o2 h1 h2 h3;exact hN.out _<|Nx.mk (k+1,o2) h1 ⟨by simp only;omega,h2,h3⟩ (by simp only;omega)
   by_cases h3:x.kind=3
   ·simp(disch:=omega) [-zAa,hx,h3]
    refine ac (zp x.text gn (by simp[gn]) (by omega) (by simp[gn])) rfl fun _=>?_
    simp(disch:=omega) [-zAa];refine BrK.mk (fun hb=>?_) (fun hb=>?_)
    ·simp(disch:=omega) [-zAa]
     have hi:=hi.out;rw[if_pos ⟨h3,hb⟩]at hi;exact fin _ out (by simp) (by omega) (by simpa using hi)
    ·simp(disch:=omega) [-zAa,hx,h3]
     have hi:=hi.out;rw[if_neg (by simp[hb]),if_neg (by omega)]at hi
     exact fin _ (out++[x]) (by simp[h3]) (by simp;omega) (by simpa using hi)
   ·by_cases h1:x.kind=1
    ·have hi:=hi.out
     rw[if_neg (by simp[h3]),if_pos h1]at hi
     have hf1:=Gg x.name x.kids;have hf2:=nB (aq x.name x.kids);have hf3:=kQ ((aq x.name x.kids).flatMap aA);simp(disch:=omega) [-zAa,hx,h1];refine b7 (pe x.name x.kids (by omega) (by omega) (fun n hn=>by have:=mS hn;omega)) (by simp) ?_
     simp(disch:=omega) [-zAa,hx,h1];refine b7 (hrec x hxm (aq x.name x.kids) (fun y hy=>(List.mem_filter.1 hy).1) hxk (by omega) (by omega)) (by simp) ?_
     simp(disch:=omega) [-zAa,hx,h1];refine b7 (pe x.name (cI (aq x.name x.kids)) (by omega) (by simp only[cI];omega) (fun n hn=>by have:=mS hn;simp only[cI]at this;omega)) (by simp) ?_
     simp(disch:=omega) [-zAa,hx,h1];exact fin _ (out++[⟨x.kind,x.name,x.attrs,x.text,aq x.name (aW ((aq x.name x.kids).flatMap aA))⟩]) (by simp[h1,cI]) (by simp;omega) (by simpa using hi)
    ·have hi:=hi.out
     rw[if_neg (by simp[h3]),if_neg h1]at hi
     simp(disch:=omega) [-zAa,hx,h1,h3];exact fin _ (out++[x]) (by simp) (by simp;omega) (by simpa using hi)
 have all:∀l:List Node,∀n∈l,∀l':List Node,(∀y∈l',y∈n.kids)->an HZ n.kids->l'.length<=1000->br l'<=1000000->Fn Tryz.prog gG [.seq 5 (l'.map Node.v)] (.seq 5 ((cI l').map Node.v)):=by
  refine aw (fun x hx=>by cases hx) ?_
  intro n l h1 h2 x hx;rcases zAh.1 hx with rfl|hx
  ·intro l' hs hf
   exact key l' (fun m hm=>h1 m (hs m hm)) (fun m hm=>ep hf (hs m hm))
  ·exact h2 x hx
 exact fun l hf=>key l (all l) (fun n hn=>ep hf hn)
def right(s:Str):Bool:=decide (dx s=s)
def fO:List Attr->Str->Bool
 |[],_=>false
 |a::l,s=>if a.name=s then true else fO l s
def mC:List Attr->List Attr->Int
 |_,[]=>0
 |pre,a::l=>if eX a.name then(if fO pre a.name then 5 else mC (pre++[a]) l)else 4
def dS:List Attr->Bool
 |[]=>true
 |a::l=>right a.value&&dS l
def li(n:Node):Int:=
 if n.text=[]then(if named n.name then(if mC [] n.attrs=0 then(if dS n.attrs then 0 else 2)else mC [] n.attrs)else 4)else 7
theorem uZ:∀(l pre:List Attr),mC pre l=0\/mC pre l=4\/mC pre l=5
 |[],pre=>by simp[mC]
 |a::l,pre=>by
   simp only[mC];split
   ·split
    ·simp
    ·exact uZ l _
   ·simp
def fine1(n:Node):Prop:=n.name.length<=1000000/\n.text.length<=1000000/\n.attrs.length<=1000000/\∀a∈n.attrs,a.name.length<=1000000/\a.value.length<=1000000
theorem AF(n:Node)(hf:fine1 n):Fn Tryz.prog Af [n.v] (.int .i64 (li n)):=by
 refine yoA Ao ?_;obtain⟨h1,h2,h3,h4⟩:=hf;simp(disch:=omega) [-zAa,li];refine ac (iI _) rfl fun _=>?_;simp(disch:=omega) [-zAa];refine BrKd.mk (fun ht=>?_) (fun ht=>?_)
 ·simp(disch:=omega) [-zAa,ht]
  refine BrK.mk (fun hn=>?_) (fun hn=>?_)
  ·simp(disch:=omega) [-zAa,hn]
   generalize hD:mC [] n.attrs=D;have hDc:=uZ n.attrs [];rw[hD]at hDc
   refine ak (fun(k:Nat)=>⟨[(1,.ptr 0 0),(4,.int .i64 k)],[some (.box [.int .i64 n.kind,.str n.name,.seq 2 (n.attrs.map Attr.v),.str [],.seq 5 (n.kids.map Node.v)])]⟩)
    (fun k=>k<=n.attrs.length/\mC (n.attrs.take k) (n.attrs.drop k)=D) (fun k=>n.attrs.length-k) [] _ 0 rfl (by simp) (by simp[hD]) ?_
   rintro k ⟨hk,hi⟩ N hN;rcases place n.attrs k hk with⟨he,hd⟩|⟨hlt,x,hx,hd⟩<;>rw[hd]at hi
   ·simp only[mC]at hi
    subst hi;simp(disch:=omega) [-zAa,he];generalize hV:dS n.attrs=R
    refine ak (fun(k:Nat)=>⟨[(1,.ptr 0 0),(7,.int .i64 k)],[some (.box [.int .i64 n.kind,.str n.name,.seq 2 (n.attrs.map Attr.v),.str [],.seq 5 (n.kids.map Node.v)])]⟩)
     (fun k=>k<=n.attrs.length/\dS (n.attrs.drop k)=R) (fun k=>n.attrs.length-k) [] _ 0 rfl (by simp) (by simp[hV]) ?_
    rintro k ⟨hk,hi⟩ N hN;rcases place n.attrs k hk with⟨he,hd⟩|⟨hlt,x,hx,hd⟩<;>rw[hd]at hi
    ·simp only[dS]at hi
     subst hi;simp(disch:=omega) [-zAa,he,hV]
    ·obtain⟨g1,g2⟩:=h4 x (zAb hx)
     simp only[dS]at hi;replace hi:=hid hi;simp(disch:=omega) [-zAa,hx];refine ac (uU x.value g2) rfl fun _=>?_;simp(disch:=omega) [-zAa];refine BrKd.mk (fun h=>?_) (fun h=>?_)
     ·simp(disch:=omega) [-zAa,h]
      have hi:=hi.out;refine hN.out _<|Nx.mk (k+1) (by simp) ⟨by omega,?_⟩ (by omega)
      simpa[right,h]using hi
     ·simp(disch:=omega) [-zAa,h]
      have hi:=hi.out;simp[right,h]at hi;simp[hi]
   ·obtain⟨g1,g2⟩:=h4 x (zAb hx)
    simp only[mC]at hi;replace hi:=hid hi;simp(disch:=omega) [-zAa,hx];refine ac (lg x.name g1) rfl fun _=>?_;simp(disch:=omega) [-zAa];refine BrK.mk (fun h=>?_) (fun h=>?_)
    ·have hi:=hi.out
     rw[if_pos h]at hi;replace hi:=hid hi;simp(disch:=omega) [-zAa,h]
     refine ak (fun(j:Nat)=>⟨[(1,.ptr 0 0),(4,.int .i64 k),(6,.int .i64 j)],[some (.box [.int .i64 n.kind,.str n.name,.seq 2 (n.attrs.map Attr.v),.str [],.seq 5 (n.kids.map Node.v)])]⟩)
      (fun j=>j<=k/\fO (n.attrs.take k) x.name=fO ((n.attrs.take k).drop j) x.name) (fun j=>k-j) [] _ 0 rfl (by simp) (by simp) ?_
     rintro j ⟨hj,hi2⟩ N2 hN2;by_cases hlt2:j<k
     ·obtain⟨y,hy⟩:=aP (l:=n.attrs) (k:=j) (by omega)
      rw[take_drop hy hlt2,fO]at hi2;replace hi2:=hid hi2;simp(disch:=omega) [-zAa,hx,hy];refine BrKd.mk (fun h=>?_) (fun h=>?_)
      ·simp(disch:=omega) [-zAa,h]
       have hi:=hi.out;have hi2:=hi2.out;rw[if_pos h]at hi2;rw[if_pos hi2]at hi;subst hi;simp
      ·simp(disch:=omega) [-zAa,h]
       have hi2:=hi2.out;rw[if_neg h]at hi2;exact hN2.out _<|Nx.mk (j+1) (by simp) ⟨by omega,hi2⟩ (by omega)
     ·have e:(n.attrs.take k).drop j=[]:=by simp;omega
      rw[e,fO]at hi2;have hi:=hi.out;rw[if_neg (by simp[hi2])]at hi
      replace hi:=hid hi;simp(disch:=omega) [-zAa];refine hN.out _<|Nx.mk (k+1) (by simp) ⟨by omega,?_⟩ (by omega)
      rw[dv hx];exact hi.out
    ·have hi:=hi.out
     rw[if_neg (by simp[h])]at hi
     subst hi;simp(disch:=omega) [-zAa,h]
  ·simp(disch:=omega) [-zAa,hn]
 ·simp(disch:=omega) [-zAa,ht]
def d6(n:Node)(txt:Bool):Int:=
 if n.kind=1 then li n
 else if n.kind=2\/n.kind=3 then(if n.name=[]/\n.attrs=[]/\n.kids=[]then(if right n.text/\(n.kind=2->¬n.text=[]/\txt=false)then 0 else 2)else 7)
 else 7
theorem Ox(n:Node)(txt:Bool)(hf:fine1 n):Fn Tryz.prog za [n.v,.bool txt] (.int .i64 (d6 n txt)):=by
 refine yoA Nu ?_;have hla:0<n.attrs.length↔¬n.attrs=[]:=by rw[zCb]
 have hlk:0<n.kids.length↔¬n.kids=[]:=by rw[zCb]
 have hf2:=hf.2.1;simp(disch:=omega) [-zAa,d6]
 repeat' (first
  |(refine BrKd.mk (fun h=>?_) (fun h=>?_)<;>simp(disch:=omega) [hla,hlk, *])
  |(refine BrK.mk (fun h=>?_) (fun h=>?_)<;>simp(disch:=omega) [hla,hlk, *])
  |(refine ac (by simpa[*]using AF n hf) rfl (fun _=>?_)<;>simp(disch:=omega) [hla,hlk, *])
  |(refine ac (uU n.text hf2) rfl (fun _=>?_)<;>simp(disch:=omega) [hla,hlk,right, *]))
mutual
def Z9:Node->Int
 |⟨_,_,_,_,ks⟩=>gK false ks
def gK:Bool->List Node->Int
 |_,[]=>0
 |txt,n::l=>if d6 n txt=0 then(if Z9 n=0 then gK (decide (n.kind=2)) l else Z9 n)else d6 n txt
end
theorem AV(n:Node):Z9 n=gK false n.kids:=by cases n;simp[Z9]
def may(l:List Node):Int:=gK false l
def bU(l:List Node)(k:Nat):Bool:=decide (0<k)&&(match l[k-1]? with
 |some n=>decide (n.kind=2)
 |none=>false)
theorem Oy:∀(l:List Node),an fine1 l->Fn Tryz.prog lW [.seq 5 (l.map Node.v)] (.int .i64 (may l)):=by
 have key:∀l:List Node,(∀n∈l,an fine1 n.kids->Fn Tryz.prog lW [.seq 5 (n.kids.map Node.v)] (.int .i64 (may n.kids)))->an fine1 l->Fn Tryz.prog lW [.seq 5 (l.map Node.v)] (.int .i64 (may l)):=by
  intro l hrec hfi;refine yoB Ny fun ho=>?_;simp only[oks,ok,and_true]at ho;have hlen:l.length<=140737488355328:=by have:=ho.1;simpa using this
  clear ho;simp(disch:=omega) [-zAa];generalize hr:may l=r;refine ak (fun k:Nat=>⟨[(0,.seq 5 (l.map Node.v)),(3,.int .i64 k)],[]⟩) (fun k=>k<=l.length/\gK (bU l k) (l.drop k)=r) (fun k=>l.length-k) [] _ 0 rfl (by simp[*]) (by simp[*,<-hr,may,bU]) ?_
  rintro k ⟨hk,hi⟩ N hN;rcases place l k hk with⟨he,hd⟩|⟨hlt,x,hx,hd⟩<;>rw[hd]at hi<;>replace hi:=hid hi
  ·simp only[gK]at hi
   have hi:=hi.out;subst hi;simp(disch:=omega) [-zAa,he]
  ·have hxm:=zAb hx
   obtain⟨hfx,hfk⟩:=ep hfi hxm;have hp1:bU l (k+1)=decide (x.kind=2):=by simp[bU,hx]
   simp only[gK,AV]at hi;rw[<-hp1]at hi;change Hid ((if d6 x (bU l k)=0 then if may x.kids=0 then gK (bU l (k+1)) (l.drop (k+1))else may x.kids else d6 x (bU l k))=r)at hi
   have e1:d6 x (bU l k)≠0->r=d6 x (bU l k):=fun h=>by have hi:=hi.out;rw[if_neg h]at hi;exact hi.symm
   have e2:d6 x (bU l k)=0->may x.kids≠0->r=may x.kids:=fun h h'=>by have hi:=hi.out;rw[if_pos h]at hi;rw[if_neg h']at hi;exact hi.symm
   have e3:d6 x (bU l k)=0->may x.kids=0->gK (bU l (k+1)) (l.drop (k+1))=r:=fun h h'=>by have hi:=hi.out;rw[if_pos h]at hi;rw[if_pos h']at hi;exact hi
   replace e1:=hid e1;replace e2:=hid e2;replace e3:=hid e3;clear hi;have hone:∀b:Bool,b=bU l k->Fn Tryz.prog za [x.v,.bool b] (.int .i64 (d6 x (bU l k))):=fun b hb=>by rw[hb];exact Ox x (bU l k) hfx
   have rest:∀K:St->Prop,(∀τ:St,τ.nrm [0,3]=⟨[(0,.seq 5 (l.map Node.v)),(3,.int .i64 ((k+1:Nat):Int))],[]⟩->d6 x (bU l k)=0->may x.kids=0->N τ):=by
    intro K τ h h1 h2;exact hN.out _<|Nx.mk (k+1) h ⟨by omega,e3.out h1 h2⟩ (by omega)
   replace rest:=rest (fun _=>True);rcases zBe k with hk0|hk0
   ·subst hk0
    have hp0:bU l 0=false:=by simp[bU]
    simp(disch:=omega) [-zAa,hx];refine ay (by simpa using hone false hp0.symm) rfl ?_
    simp(disch:=omega) [-zAa,hx];refine BrKd.mk (fun h=>?_) (fun h=>?_)
    ·simp(disch:=omega) [-zAa,h,hx]
     refine ac (hrec x hxm hfk) rfl fun _=>?_;simp(disch:=omega) [-zAa,hx];refine BrKd.mk (fun h2=>?_) (fun h2=>?_)
     ·simp(disch:=omega) [-zAa,h2]
      exact rest _ (by simp) h h2
     ·simp(disch:=omega) [-zAa,h2]
      exact(e2.out h h2).symm
    ·simp(disch:=omega) [-zAa,h]
     exact(e1.out h).symm
   ·obtain⟨y,hy⟩:=aP (l:=l) (k:=k-1) (by omega)
    have hkt:((k:Int)-1).toNat=k-1:=by omega
    have hpk:bU l k=decide (y.kind=2):=by simp[bU,hy,hk0]
    simp(disch:=omega) [-zAa,hx,hy,hkt];refine ay (by simpa using hone (decide (y.kind=2)) hpk.symm) rfl ?_
    simp(disch:=omega) [-zAa,hx];refine BrKd.mk (fun h=>?_) (fun h=>?_)
    ·simp(disch:=omega) [-zAa,h,hx]
     refine ac (hrec x hxm hfk) rfl fun _=>?_;simp(disch:=omega) [-zAa,hx];refine BrKd.mk (fun h2=>?_) (fun h2=>?_)
     ·simp(disch:=omega) [-zAa,h2]
      exact rest _ (by simp) h h2
     ·simp(disch:=omega) [-zAa,h2]
      exact(e2.out h h2).symm
    ·simp(disch:=omega) [-zAa,h]
     exact(e1.out h).symm
 have all:∀l:List Node,∀n∈l,an fine1 n.kids->Fn Tryz.prog lW [.seq 5 (n.kids.map Node.v)] (.int .i64 (may n.kids)):=by
  refine aw (fun x hx=>by cases hx) ?_
  intro n l h1 h2 x hx;rcases zAh.1 hx with rfl|hx
  ·exact key _ h1
  ·exact h2 x hx
 exact fun l=>key l (all l)
mutual
def adQ:Node->Bool
 |⟨_,_,_,_,ks⟩=>mO ks
def mO:List Node->Bool
 |[]=>true
 |n::l=>(!(decide (n.kind=3)&&i5 gn n.text)&&(n.kids.all (bn n.name)&&adQ n))&&mO l
end
theorem Lv(n:Node):adQ n=mO n.kids:=by cases n;simp[adQ]
theorem Ow:∀(l:List Node),an fine1 l->Fn Tryz.prog lV [.seq 5 (l.map Node.v)] (.bool (mO l)):=by
 have key:∀l:List Node,(∀n∈l,an fine1 n.kids->Fn Tryz.prog lV [.seq 5 (n.kids.map Node.v)] (.bool (mO n.kids)))->an fine1 l->Fn Tryz.prog lV [.seq 5 (l.map Node.v)] (.bool (mO l)):=by
  intro l hrec hfi;refine yoB Nt fun ho=>?_;simp only[oks,ok,and_true]at ho;have hlen:l.length<=140737488355328:=by have:=ho.1;simpa using this
  have hlenk:∀x∈l,x.kids.length<=140737488355328:=fun x hx=>by
   have h:=(R0.1 ho.2) _ (zBg hx);simp at h;exact h.2.2.2.2.1
  clear ho;simp(disch:=omega) [-zAa];generalize hr:mO l=r;refine ak (fun k:Nat=>⟨[(0,.seq 5 (l.map Node.v)),(3,.int .i64 k)],[]⟩) (fun k=>k<=l.length/\mO (l.drop k)=r) (fun k=>l.length-k) [] _ 0 rfl (by simp[*]) (by simp[*]) ?_
  rintro k ⟨hk,hi⟩ N hN;rcases place l k hk with⟨he,hd⟩|⟨hlt,x,hx,hd⟩<;>rw[hd]at hi<;>replace hi:=hid hi
  ·have hi:=hi.out
   simp only[mO]at hi;subst hi;simp(disch:=omega) [-zAa,he]
  ·have hxm:=zAb hx
   obtain⟨hfx,hfk⟩:=ep hfi hxm;have hxk:=hlenk x hxm;simp only[mO,Lv]at hi;have bad:(!(decide (x.kind=3)&&i5 gn x.text)&&(x.kids.all (bn x.name)&&mO x.kids))=false->r=false:=fun h=>by have hi:=hi.out;rw[h]at hi;simpa using hi.symm
   have good:(!(decide (x.kind=3)&&i5 gn x.text)&&(x.kids.all (bn x.name)&&mO x.kids))=true->mO (l.drop (k+1))=r:=fun h=>by have hi:=hi.out;rw[h]at hi;simpa using hi
   replace bad:=hid bad;replace good:=hid good;clear hi;have hax:0<gn.length:=by simp[gn]
   have hal:gn.length<=1000000000:=by simp[gn]
   have hxt:=hfx.2.1;simp(disch:=omega) [-zAa,hx];generalize hA:x.kids.all (bn x.name)=A at bad good
   repeat' (first
    |(refine BrKd.mk (fun h=>?_) (fun h=>?_)<;>simp(disch:=omega) [hx, *])
    |(refine BrK.mk (fun h=>?_) (fun h=>?_)<;>simp(disch:=omega) [hx, *])
    |(refine ac (zp x.text gn hax (by omega) hal) rfl (fun _=>?_)<;>simp(disch:=omega) [hx, *]))
   all_goals
    first
    |(rw[bad.out (by simp[*])];done)
    |(refine(bad.out (by simp[*]));done)
    |(refine(bad.out (by simp[*])).symm;done)
    |skip
   all_goals
    refine ak (fun(j:Nat)=>⟨[(0,.seq 5 (l.map Node.v)),(3,.int .i64 k),(4,.int .i64 j)],[]⟩)
     (fun j=>j<=x.kids.length/\((x.kids.drop j).all (bn x.name))=A) (fun j=>x.kids.length-j) [] _ 0 rfl (by simp) (by simp[hA]) ?_
    rintro j ⟨hj,hi⟩ N2 hN2;rcases place x.kids j hj with⟨he2,hd2⟩|⟨hlt2,y,hy,hd2⟩<;>rw[hd2]at hi
    ·simp only[List.all_nil]at hi
     subst hi;simp(disch:=omega) [-zAa,hx,he2];refine ac (hrec x hxm hfk) rfl fun _=>?_;simp(disch:=omega) [-zAa];refine BrK.mk (fun h2=>?_) (fun h2=>?_)
     ·simp(disch:=omega) [-zAa]
      refine hN.out _<|Nx.mk (k+1) (by simp) ⟨by omega,good.out (by simp[*])⟩ (by omega)
     ·simp(disch:=omega) [-zAa]
      have hb:=bad.out (by simp[*])
      simp[hb]
    ·obtain⟨hfy,_⟩:=ep hfk (zAb hy)
     simp only[zBb]at hi;have ht2:y.text.length<=100000000:=by have:=hfy.2.1;omega
     replace hi:=hid hi;simp(disch:=omega) [-zAa,hx,hy];refine ay (by simpa using wo x.name y hfx.1 ht2) rfl ?_
     simp(disch:=omega) [-zAa];refine BrK.mk (fun h2=>?_) (fun h2=>?_)
     ·simp(disch:=omega) [-zAa]
      have hi:=hi.out;rw[h2]at hi;refine hN2.out _<|Nx.mk (j+1) (by simp) ⟨by omega,by simpa using hi⟩ (by omega)
     ·simp(disch:=omega) [-zAa]
      have hi:=hi.out;rw[h2]at hi;simp only[zDb]at hi;subst hi;have hb:=bad.out (by simp)
      simp[hb]
 have all:∀l:List Node,∀n∈l,an fine1 n.kids->Fn Tryz.prog lV [.seq 5 (n.kids.map Node.v)] (.bool (mO n.kids)):=by
  refine aw (fun x hx=>by cases hx) ?_
  intro n l h1 h2 x hx;rcases zAh.1 hx with rfl|hx
  ·exact key _ h1
  ·exact h2 x hx
 exact fun l=>key l (all l)
def nD(l:List Node):Bool:=decide (may l=0)&&mO l
theorem Db(l:List Node)(hf:an fine1 l):Fn Tryz.prog BP [.seq 5 (l.map Node.v)] (.bool (nD l)):=by
 refine yoA Cl ?_;simp(disch:=omega) [-zAa,nD];refine ac (Oy l hf) rfl fun _=>?_;simp(disch:=omega) [-zAa];refine BrKd.mk (fun h=>?_) (fun h=>?_)
 ·simp(disch:=omega) [-zAa,h]
  refine ac (Ow l hf) rfl fun _=>?_;simp(disch:=omega) [-zAa,h]
 ·simp(disch:=omega) [-zAa,h]
def Ws(A:Constraint->Str->Bool)(p:Policy)(l:List Node):Int:=(cf A p [] l 0).1
theorem Ov(A:Constraint->Str->Bool)(p:Policy)(hA:xr A p)(l:List Node)(hf:an fineN l)(hc:ai l<=1000000000):Fn Tryz.prog MO [p.v,.seq 5 (l.map Node.v)] (.int .i64 (Ws A p l)):=by
 refine yoA Np ?_;simp(disch:=omega) [-zAa,Ws];refine ac (by simpa using Ou A p hA l [] hf hc) rfl fun _=>?_
 simp(disch:=omega) [-zAa]
def iD(A:Constraint->Str->Bool)(p:Policy)(l:List Node):Bool:=nD l&&decide (Ws A p l<0)
theorem Gk(A:Constraint->Str->Bool)(p:Policy)(hA:xr A p)(l:List Node)(hf:an fineN l)(hf1:an fine1 l)(hc:ai l<=1000000000):Fn Tryz.prog sW [p.v,.seq 5 (l.map Node.v)] (.bool (iD A p l)):=by
 refine yoA EV ?_;simp(disch:=omega) [-zAa,iD];refine ac (Db l hf1) rfl fun _=>?_;simp(disch:=omega) [-zAa];refine BrK.mk (fun h=>?_) (fun h=>?_)
 ·simp(disch:=omega) [-zAa,h]
  refine ac (by simpa using Ov A p hA l hf hc) rfl fun _=>?_
  simp(disch:=omega) [-zAa,h]
 ·simp(disch:=omega) [-zAa,h]
theorem aN{f:Node->Prop}:∀{l:List Node},an f l↔∀n∈l,f n/\an f n.kids
 |[]=>by simp[an]
 |n::l=>by simp[an,xp,aN (l:=l)]
theorem fk{f g:Node->Prop}(h:∀n,f n->an f n.kids->g n):∀l:List Node,an f l->an g l:=by
 refine aw (fun _=>by simp[an]) ?_
 intro n l h1 h2 ha;simp only[an,xp]at ha⊢;exact⟨⟨h n ha.1.1 ha.1.2,h1 ha.1.2⟩,h2 ha.2⟩
theorem c9(a b:List Node):ai (a++b)=ai a+ai b:=by
 induction a with
 |nil=>simp[ai]
 |cons x a ih=>simp only[List.cons_append,ai,ih];omega
theorem Ie:∀(l:List Node)(i:Nat)(o n:Node),l[i]?=some o->ai n.kids=ai o.kids->ai (l.set i n)=ai l
 |[],i,o,n,h,_=>by simp at h
 |x::l,0,o,n,h,hk=>by simp at h;subst h;simp[ai,r9,hk]
 |x::l,i+1,o,n,h,hk=>by
   have:=Ie l i o n (by simpa using h) hk
   simp only[zCf,ai,this]
theorem l5:∀(l out:List Node),ai (ax out l)<=ai out+ai l
 |[],out=>by simp[ax,ai]
 |n::l,out=>by
   have h1:=l5 l out;have h2:=l5 l (out++[n]);rw[c9]at h2;have hn:ai [n]=lF n:=by simp[ai]
   have hc:ai (n::l)=lF n+ai l:=by simp[ai]
   simp only[ax];split
   ·omega
   ·split
    ·rename_i o ho
     split
     ·have h3:=l5 l (out.set (out.length-1) ⟨o.kind,o.name,o.attrs,o.text++n.text,o.kids⟩)
      have e:=Ie out (out.length-1) o ⟨o.kind,o.name,o.attrs,o.text++n.text,o.kids⟩ ho rfl;rw[e]at h3;omega
     ·omega
    ·omega
theorem HB(l:List Node):ai (aW l)<=ai l:=by
 have:=l5 l [];simpa[aW,ai]using this
theorem iY{P:Node->Prop}(hP:∀k n a t ks t',P ⟨k,n,a,t,ks⟩->P ⟨k,n,a,t',ks⟩):∀(l out:List Node),(∀n∈out,P n)->(∀n∈l,P n)->∀n∈ax out l,P n
 |[],out,ho,_=>by simpa[ax]using ho
 |n::l,out,ho,hl=>by
   have hn:=hl n (by simp)
   have hl':∀n∈l,P n:=fun x hx=>hl x (by simp[hx])
   have hon:∀x∈out++[n],P x:=fun x hx=>by
    rcases zBd.1 hx with h|h
    ·exact ho x h
    ·simp at h;subst h;exact hn
   simp only[ax];split
   ·exact iY hP l out ho hl'
   ·split
    ·rename_i o hoo
     split
     ·refine iY hP l _ (fun x hx=>?_) hl'
      rcases zBj hx with h|h
      ·exact ho x h
      ·subst h
       have:=ho o (zAb hoo);obtain⟨k0,n0,a0,t0,ks0⟩:=o;exact hP _ _ _ _ _ _ this
     ·exact iY hP l _ hon hl'
    ·exact iY hP l _ hon hl'
theorem Tt{P:Node->Prop}(hP:∀k n a t ks t',P ⟨k,n,a,t,ks⟩->P ⟨k,n,a,t',ks⟩){l:List Node}(h:∀n∈l,P n):∀n∈aW l,P n:=iY hP l [] (fun _ h=>by cases h) h
def HY(n:Node):Prop:=n.name.length<=1000/\n.attrs.length<=1000/\(∀a∈n.attrs,a.name.length<=1000/\a.value.length<=1000)/\n.kids.length<=1000/\br n.kids<=1000000
theorem zd{l:List Node}(h:an HY l):an HY (aW l):=
 aN.2 (Tt (P:=fun n=>HY n/\an HY n.kids) (fun k n a t ks t' h=>h) (aN.1 h))
def QM(n:Node):Prop:=n.name.length<=30/\n.text.length<=30/\n.attrs.length<=5/\∀a∈n.attrs,a.name.length<=30/\a.value.length<=30
theorem zy:∀(l:List Node)(m:Nat),an QM (dX l m).1:=by
 refine aw (fun m=>by simp[dX,an]) ?_
 intro n l h1 h2 m;simp only[dX,A1];split
 ·simp[an]
 ·simp only[an,O8]
  refine⟨⟨⟨by simp[sI];omega,by simp[sI];omega,by simp;omega,fun a ha=>?_⟩,h1 _⟩,h2 _⟩
  simp only[zCe]at ha;obtain⟨b,_,rfl⟩:=ha;simp[TZ,sI];omega
theorem Mz{l:List Str}{m:Nat}(h:l.all (fun s=>decide (s.length<=m))=true)(i:Nat):((l[i]?).getD []).length<=m:=by
 cases hi:l[i]? with
 |none=>simp
 |some x=>simpa using List.all_eq_true.1 h x (zAb hi)
theorem uN:∀(l acc:List Attr),(∀a∈l,a.name.length<=30/\a.value.length<=30)->(∀a∈acc,a.name.length<=1000/\a.value.length<=1000)->
 (o9 acc l).length<=acc.length+l.length/\∀a∈o9 acc l,a.name.length<=1000/\a.value.length<=1000
 |[],acc,_,ha=>by simpa[o9]using ha
 |x::l,acc,hl,ha=>by
   have hx:=hl x (by simp)
   have hl':∀a∈l,a.name.length<=30/\a.value.length<=30:=fun a h=>hl a (by simp[h])
   simp only[o9];split
   ·have:=uN l acc hl' ha
    exact⟨by simp;omega,this.2⟩
   ·have:=uN l (acc++[⟨dj x.name,dx x.value⟩]) hl' (fun a h=>by
     rcases zBd.1 h with h|h
     ·exact ha a h
     ·simp at h;subst h
      have h1:=nI x.value
      have h2:(dj x.name).length<=1000:=by
       unfold dj;split
       ·omega
       ·have:=Mz (l:=Wm) (m:=1000) (by decide) (x.name.length%5)
        omega
      exact⟨h2,by simp only;omega⟩)
    exact⟨by have:=this.1;simp at this⊢;omega,this.2⟩
theorem Bf(f:Node->Node)(c:Nat):∀l:List Node,(∀n∈l,(f n).text.length<=c)->br (l.map f)<=c*l.length
 |[],_=>by simp[br]
 |n::l,h=>by
   have h1:=h n (by simp)
   have h2:=Bf f c l (fun x hx=>h x (by simp[hx]))
   simp only[br,zAj,zCa,zAd,Nat.mul_succ]at *;omega
theorem QD:∀l:List Node,an QM l->ai l<=1000->an HY (l.map cE)/\ai (l.map cE)<=ai l/\(∀n∈l.map cE,n.text.length<=120):=by
 refine aw (fun _ _=>by simp[an,ai]) ?_
 intro n l h1 h2 ha hc;simp only[an,xp]at ha;simp only[ai,r9]at hc;obtain⟨g1,g2,g3⟩:=h2 ha.2 (by omega)
 obtain⟨k1,k2,k3⟩:=h1 ha.1.2 (by omega)
 have hw:(A9 n.name).length<=1000:=by
  unfold A9;split
  ·have:=ha.1.1.1;omega
  ·have:=Mz (l:=RZ) (m:=1000) (by decide) (sumB n.name%10);omega
 have hA:=uN n.attrs [] ha.1.1.2.2.2 (fun _ h=>by cases h)
 have hr:=nI n.text;have ht:=ha.1.1.2.1;have hat:=ha.1.1.2.2.1;have hm:=kQ (n.kids.map cE);have hmc:=HB (n.kids.map cE);have hkl:=dr n.kids;have hts:=Bf cE 120 n.kids (fun x hx=>k3 _ (zBg hx));have hts2:120*n.kids.length<=120*1000:=zCc _ (by omega)
 simp only[List.length_map]at hm;simp only[zBc,Nat.zero_add]at hA;refine⟨?_,?_,?_⟩
 ·simp only[zAj,an,xp]
  refine⟨?_,g1⟩;rw[k8];split
  ·refine⟨⟨hw,?_,hA.2,?_,?_⟩,zd k1⟩
   ·simp only;omega
   ·simp only;omega
   ·simp only;omega
  ·exact⟨⟨by simp,by simp,by simp,by simp,by simp[br]⟩,by simp[an]⟩
 ·simp only[zAj,ai,r9]
  rw[k8];split
  ·simp only;omega
  ·simp only[ai];omega
 ·intro x hx
  simp only[zAj,zAh]at hx;rcases hx with rfl|hx
  ·rw[k8]
   split
   ·simp
   ·simp only;omega
  ·exact g3 x hx
theorem zl(l:List Node):an HY (eP l)/\ai (eP l)<=40/\br (eP l)<=4800:=by
 have hc:=wG l 40;obtain⟨h1,h2,h3⟩:=QD (dX l 40).1 (zy l 40) (by omega)
 have hm:=kQ ((dX l 40).1.map cE);have hmc:=HB ((dX l 40).1.map cE);have ht:=Bf cE 120 (dX l 40).1 (fun x hx=>h3 _ (zBg hx));have hl:=dr (dX l 40).1;have:120*(dX l 40).1.length<=120*40:=zCc _ (by omega)
 exact⟨zd h1,by unfold eP;omega,by unfold eP;omega⟩
def ye(l:List Node):List Node:=cI (eP l)
theorem K8(l:List Node):Fn Tryz.prog I8 [.seq 5 (l.map Node.v)] (.seq 5 ((ye l).map Node.v)):=by
 refine yoA JU ?_;obtain⟨h1,h2,h3⟩:=zl l;have hl:=dr (eP l);have hf:an HZ (eP l):=fk (fun n h _=>⟨h.1,h.2.2.2⟩) _ h1;simp(disch:=omega) [-zAa];refine al (wv l) (by simp) fun _=>?_
 simp(disch:=omega) [-zAa];refine al (Da (eP l) hf (by omega) (by omega)) (by simp) fun _=>?_
 simp(disch:=omega) [-zAa,ye]
theorem qW(s:Str):Fn Tryz.prog MY [.str s] (.bool (named s)):=by
 refine yoB NE fun ho=>?_;simp only[oks,ok,and_true]at ho;simp(disch:=omega) [-zAa];generalize hr:named s=r;refine ak (fun k:Nat=>⟨[(0,.str s),(7,.int .i64 s.length),(8,.int .i64 k)],[]⟩) (fun k=>k<=s.length/\(if k=0 then named s else(s.drop k).all eh)=r) (fun k=>s.length-k) [] _ 0 rfl (by simp) (by simp[hr]) ?_
 rintro k ⟨hk,hi⟩ N hN;by_cases hk0:k=0
 ·subst hk0
  simp only[if_true]at hi;cases s with
  |nil=>simp[named]at hi;subst hi;simp(disch:=omega) [-zAa]
  |cons b t=>
    have hb:=b.toNat_lt;simp only[named,zBb]at hi;replace hi:=hid hi;simp(disch:=omega) [-zAa]
    repeat' (first|(refine BrKd.mk (fun h=>?_) (fun h=>?_)<;>simp(disch:=omega) [*])|(refine BrK.mk (fun h=>?_) (fun h=>?_)<;>simp(disch:=omega) [*]))
    all_goals first
     |(refine hN.out _<|Nx.mk 1 (by simp[*]) ⟨by simp,?_⟩ (by simp);have hi:=hi.out;simpa(disch:=omega) [eh,small,decide_eq_true,decide_eq_false, *]using hi)
     |(have hi:=hi.out;simpa(disch:=omega) [eh,small,decide_eq_true,decide_eq_false, *]using hi)
     |omega
 ·simp only[if_neg hk0]at hi
  rcases place s k hk with⟨he,hd⟩|⟨hlt,x,hx,hd⟩<;>rw[hd]at hi<;>replace hi:=hid hi
  ·simp(disch:=omega) [-zAa,he]
   have hi:=hi.out;have:s≠[]:=by intro h;subst h;simp at he;omega
   simpa[this]using hi
  ·have hb:=x.toNat_lt
   simp only[zBb]at hi;simp(disch:=omega) [-zAa,hx]
   repeat' (first|(refine BrKd.mk (fun h=>?_) (fun h=>?_)<;>simp(disch:=omega) [*])|(refine BrK.mk (fun h=>?_) (fun h=>?_)<;>simp(disch:=omega) [*]))
   all_goals first
    |omega
    |(refine hN.out _<|Nx.mk (k+1) (by simp[*]) ⟨by omega,?_⟩ (by omega);have hi:=hi.out;rw[if_neg (by omega)];simpa(disch:=omega) [eh,small,decide_eq_true,decide_eq_false, *]using hi)
    |(have hi:=hi.out;simpa(disch:=omega) [eh,small,decide_eq_true,decide_eq_false, *]using hi)
theorem Q0(s:Str):Fn Tryz.prog BU [.str s] (.bool (DO s)):=by
 refine yoB Ct fun ho=>?_;simp only[oks,ok,and_true]at ho;simp(disch:=omega) [-zAa,DO]
 repeat' (first|(refine BrKd.mk (fun h=>?_) (fun h=>?_)<;>simp(disch:=omega) [*])|(refine BrK.mk (fun h=>?_) (fun h=>?_)<;>simp(disch:=omega) [*]))
theorem H6(s:Str):Fn Tryz.prog Hx [.str s] (.bool (raw s)):=by
 refine yoB HP fun ho=>?_;simp only[oks,ok,and_true]at ho;simp(disch:=omega) [-zAa,raw]
 repeat' (first|(refine BrKd.mk (fun h=>?_) (fun h=>?_)<;>simp(disch:=omega) [*])|(refine BrK.mk (fun h=>?_) (fun h=>?_)<;>simp(disch:=omega) [*]))
theorem Dc(s:Str):Fn Tryz.prog BR [.str s] (.bool (plain s)):=by
 refine yoB Co fun ho=>?_;simp only[oks,ok,and_true]at ho;simp(disch:=omega) [-zAa,plain]
 repeat' (first|(refine BrKd.mk (fun h=>?_) (fun h=>?_)<;>simp(disch:=omega) [*])|(refine BrK.mk (fun h=>?_) (fun h=>?_)<;>simp(disch:=omega) [*])|(refine ac (qW _) rfl (fun _=>?_)<;>simp(disch:=omega) [*])|(refine ay (qW _) rfl ?_<;>simp(disch:=omega) [*]))
 all_goals simp[*]
theorem iJ(p:Policy)(s:Str):Fn Tryz.prog Ev [p.v,.str s] (.tup [((aT p.elements s).getD .zero).v,.bool (aT p.elements s).isSome]):=by
 refine yoB Fj fun ho=>?_;simp only[oks,ok,and_true]at ho;have hlen:p.elements.length<=140737488355328:=by have:=ho.1;simp at this;exact this.2.1.1
 clear ho;simp(disch:=omega) [-zAa];generalize hr:aT p.elements s=r;refine ak (fun k:Nat=>⟨[(1,.str s),(4,.ptr 0 0),(9,.seq 3 (p.elements.map Allowed.v)),(10,.int .i64 p.elements.length),(11,.int .i64 k)],[some (.box [.str [],.nil 1,.nil 5])]⟩) (fun k=>k<=p.elements.length/\aT (p.elements.drop k) s=r) (fun k=>p.elements.length-k) [] _ 0 rfl (by simp[*]) (by simp[*]) ?_
 rintro k ⟨hk,hi⟩ N hN;rcases place p.elements k hk with⟨he,hd⟩|⟨hlt,x,hx,hd⟩<;>rw[hd]at hi<;>replace hi:=hid hi
 ·simp(disch:=omega) [-zAa,he]
  simp[<-hi.out,aT,Allowed.zero]
 ·simp(disch:=omega) [-zAa,hx]
  repeat' (first|(refine BrKd.mk (fun h=>?_) (fun h=>?_)<;>simp(disch:=omega) [*])|(refine BrK.mk (fun h=>?_) (fun h=>?_)<;>simp(disch:=omega) [*]))
  all_goals first
   |(refine hN.out _<|Nx.mk (k+1) (by simp[*]) ⟨by omega,?_⟩ (by omega);simpa(disch:=omega) [*,decide_eq_true,decide_eq_false,aT]using hi.out)
   |(have hi:=hi.out;simp[aT, *]at hi;subst hi;simp[*])
end Go.Abs.F
end
