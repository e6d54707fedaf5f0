/- What the first functions of the document's packages answer. No condition. -/
import Derived.Test.YtbekkicfbnaaaaaGreatDoorVCodeA
import Derived.Lib.Bytealg
import Derived.Test.YtbekkicfbnaaaaaGreatDoorVCodeW
set_option linter.all false open List renaming reduceReplicate→zAa,mem_of_getElem?→zAb,take→zAc,length_cons→zAd,length_take→zAe,getElem?_take→zAf,eq_nil_of_length_eq_zero→zAg,mem_cons→zAh,take_of_length_le→zAi,map_cons→zAj,length_append→zBa,filter_cons→zBb,mem_append→zBc,flatMap_cons→zBd,all_cons→zBe,length_nil→zBf,mem_map_of_mem→zBh,getElem?_map→zBj,mem_or_eq_of_mem_set→zCa,mem_filter→zCb,sum_cons→zCc,length_pos_iff→zCd,mem_singleton→zCf,mem_map→zCg,set_cons_succ→zCh,flatten_cons→zCj,mem_flatMap→zDb,any_cons→zDe,map_set→zDg
open Nat renaming eq_zero_or_pos→zBg,le_refl→zBi,mul_le_mul_left→zCe,mod_lt→zDc,add_zero→zDf
open Option renaming not_isSome→zCi
open Bool renaming not_eq_true→zDa,false_and→zDd
open Option.some renaming injEq→zDh
open List.cons renaming injEq→zDi open Option renaming some→ś open Bool renaming true→ť,false→ğ open Go.Proofs.Tryz renaming prog→ŷ
section
set_option maxHeartbeats 4000000
set_option maxRecDepth 100000
namespace Go.Abs.F
open Go.Proofs
attribute [-simp] getElem?_pos
theorem mixed:ŷ.follows .mixedOrders=true:=by kernel_rfl
abbrev Str:=List UInt8
def small(b:UInt8):Bool:=97<=b.toNat&&b.toNat<=122
theorem qZ(b):Fn ŷ Mv [.int .u8 b.toNat] (.bool (small b)):=by
 refine yoB Nj λho=>?_;simp only[oks,ok,and_true]at ho;simp[small]
 repeat' (first|(refine BrKd.mk (λh=>?_) (λh=>?_)<;>simp[*])|(refine BrK.mk (λh=>?_) (λh=>?_)<;>simp(disch:=omega) [*]))
def fE(b:UInt8):Bool:=small b||(48<=b.toNat&&b.toNat<=57)||decide (b.toNat=45)
def named:Str->Bool
 |[]=>ğ
 |b::s=>small b&&(b::s).all fE
theorem lF(s:Str):Fn ŷ My [.str s] (.bool (named s)):=by
 refine yoB Nl λho=>?_;simp only[oks,ok,and_true]at ho;cases s with
 |nil=>simp[named]
 |cons b t=>
   simp(disch:=omega);refine aa (qZ b) rfl λ_=>?_;simp;generalize hr:named (b::t)=r;generalize hs:b::t=s at *;refine ah (λk:Nat=>⟨[(0,.str s),(3,.bool (small b)),(4,.int .i64 k)],[]⟩) (λk=>k<=s.length/\(small b&&(s.drop k).all fE)=r) (λk=>s.length-k) [] _ 0 rfl (by simp) (by simp[<-hr,<-hs,named]) ?_
   rintro k ⟨hk,hi⟩ N hN;rcases place s k hk with⟨he,hd⟩|⟨hlt,x,hx,hd⟩<;>rw[hd]at hi<;>replace hi:=hid hi
   ·simp[he]
    simpa using hi.out
   ·simp(disch:=omega) [hx]
    repeat' (first|(refine BrKd.mk (λh=>?_) (λh=>?_)<;>simp(disch:=omega) [*])|(refine BrK.mk (λh=>?_) (λh=>?_)<;>simp(disch:=omega) [*])|(refine aa (qZ _) rfl (λ_=>?_)<;>simp)|(refine aw (qZ _) rfl ?_<;>simp(disch:=omega) [*]))
    all_goals first
     |(refine hN.out _<|Nx.mk (k+1) (by simp) ⟨by omega,?_⟩ (by omega);simpa(disch:=omega) [*,decide_eq_true,decide_eq_false,fE]using hi.out)
     |(first|simpa(disch:=omega) [*,decide_eq_true,decide_eq_false,fE]using hi.out.symm|simpa(disch:=omega) [*,decide_eq_true,decide_eq_false,fE]using hi.out)
def plain(s:Str):Bool:=named s&&s.length<=16
theorem lD(s:Str):Fn ŷ Mj [.str s] (.bool (plain s)):=by
 refine yoB M8 λho=>?_;simp only[oks,ok,and_true]at ho;simp[plain]
 repeat' (first|(refine BrKd.mk (λh=>?_) (λh=>?_)<;>simp(disch:=omega) [*])|(refine BrK.mk (λh=>?_) (λh=>?_)<;>simp[*])|(refine aa (lF _) rfl (λ_=>?_)<;>simp)|(refine aw (lF _) rfl ?_<;>simp(disch:=omega) [*]))
structure Attr where
 name:Str
 value:Str
structure Constraint where
 kind:Int
 words:List Str
 regex:Str
structure Rule where
 name:Str
 value:Constraint
 req:Bool
structure Allowed where
 name:Str
 kids:List Str
 rules:List Rule
structure Policy where
 top:List Str
 elements:List Allowed
 unwrap:List Str
@[simp] def Attr.v (a:Attr):V:=.strct [.str a.name,.str a.value]
def Constraint.c(c:Constraint):List V:=[.int .i64 c.kind,.seq 1 (c.words.map .str),.str c.regex]
@[simp] def Constraint.v (c:Constraint):V:=.strct c.c
@[simp] def Rule.v (r:Rule):V:=.strct [.str r.name,.int .i64 r.value.kind,.seq 1 (r.value.words.map .str),.str r.value.regex,.bool r.req]
@[simp] def Allowed.v (a:Allowed):V:=.strct [.str a.name,.seq 1 (a.kids.map .str),.seq 5 (a.rules.map Rule.v)]
@[simp] def Policy.v (p:Policy):V:=.strct [.seq 1 (p.top.map .str),.seq 3 (p.elements.map Allowed.v),.seq 1 (p.unwrap.map .str)]
attribute [simp] Constraint.c
def aJ:List Allowed->Str->Option Allowed
 |[],_=>none
 |e::l,s=>if e.name=s then ś e else aJ l s
def Allowed.zero:Allowed:=⟨[],[],[]⟩
theorem gQ(p:Policy)(s:Str):Fn ŷ Ry [p.v,.str s] (.tup [((aJ p.elements s).getD .zero).v,.bool (aJ p.elements s).isSome]):=by
 refine yoB Sq λho=>?_;simp only[oks,ok,and_true]at ho;simp;generalize hr:aJ p.elements s=r;refine ah (λk:Nat=>⟨[(1,.str s),(2,.ptr 0 0),(4,.ptr 1 0),(6,.int .i64 k)],[ś (.box [.seq 1 (p.top.map .str),.seq 3 (p.elements.map Allowed.v),.seq 1 (p.unwrap.map .str)]),ś (.box [.str [],.nil 1,.nil 5])]⟩) (λk=>k<=p.elements.length/\aJ (p.elements.drop k) s=r) (λk=>p.elements.length-k) [] _ 0 rfl (by simp) (by simp[*]) ?_
 rintro k ⟨hk,hi⟩ N hN;rcases place p.elements k hk with⟨he,hd⟩|⟨hlt,x,hx,hd⟩<;>rw[hd]at hi<;>replace hi:=hid hi
 ·simp[he]
  simp[<-hi.out,aJ,Allowed.zero]
 ·have hlen:p.elements.length<=140737488355328:=by have:=ho.1;simp at this;exact this.2.1.1
  simp(disch:=omega) [hx]
  repeat' (first|(refine BrKd.mk (λh=>?_) (λh=>?_)<;>simp(disch:=omega) [*])|(refine BrK.mk (λh=>?_) (λh=>?_)<;>simp(disch:=omega) [*]))
  all_goals first
   |(refine hN.out _<|Nx.mk (k+1) (by simp) ⟨by omega,?_⟩ (by omega);simpa(disch:=omega) [*,decide_eq_true,decide_eq_false,aJ]using hi.out)
   |(have hi:=hi.out;simp[aJ, *]at hi;subst hi;simp[*])
def cZ(s:Str):Str×Bool:=match s[s.length-1]? with
 |some x=>if x.toNat=42 then(s.take (s.length-1),ť)else(s,ğ)
 |none=>(s,ğ)
theorem C7(s:Str):Fn ŷ Rp [.str s] (.tup [.str (cZ s).1,.bool (cZ s).2]):=by
 refine yoB Sj λho=>?_;simp only[oks,ok,and_true]at ho;by_cases hp:0<s.length
 ·obtain⟨x,hx⟩:=av (l:=s) (k:=s.length-1) (by omega)
  simp(disch:=omega);simp[hx]
  repeat' (first|(refine BrKd.mk (λh=>?_) (λh=>?_)<;>simp(disch:=omega))|(refine BrK.mk (λh=>?_) (λh=>?_)<;>simp(disch:=omega) [*]))
  all_goals first|omega|simp[cZ, *]
 ·have:s=[]:=by cases s;rfl;simp at hp
  subst this;simp[cZ]
def hasS:List Str->Str->Bool
 |[],_=>ğ
 |x::l,s=>if x=s then ť else hasS l s
theorem mf(l)(s:Str):Fn ŷ Vm [.seq 1 (l.map .str),.str s] (.bool (hasS l s)):=by
 refine yoB VR λho=>?_;simp only[oks,ok,and_true]at ho;simp;generalize hr:hasS l s=r;refine ah (λk:Nat=>⟨[(0,.seq 1 (l.map .str)),(1,.str s),(5,.int .i64 k)],[]⟩) (λk=>k<=l.length/\hasS (l.drop k) s=r) (λk=>l.length-k) [] _ 0 rfl (by simp) (by simp[*]) ?_
 rintro k ⟨hk,hi⟩ N hN;rcases place l k hk with⟨he,hd⟩|⟨hlt,x,hx,hd⟩<;>rw[hd]at hi<;>replace hi:=hid hi
 ·simp[he]
  simpa[hasS]using hi.out
 ·have hlen:l.length<=140737488355328:=by have:=ho.1.1;simpa using this
  simp(disch:=omega) [hx]
  repeat' (first|(refine BrKd.mk (λh=>?_) (λh=>?_)<;>simp(disch:=omega))|(refine BrK.mk (λh=>?_) (λh=>?_)<;>simp(disch:=omega) [*]))
  all_goals first
   |(refine hN.out _<|Nx.mk (k+1) (by simp) ⟨by omega,?_⟩ (by omega);simpa(disch:=omega) [*,decide_eq_true,decide_eq_false,hasS]using hi.out)
   |(first|simpa(disch:=omega) [*,decide_eq_true,decide_eq_false,hasS]using hi.out.symm|simpa(disch:=omega) [*,decide_eq_true,decide_eq_false,hasS]using hi.out)
def sign(b:UInt8):Bool:=32<=b.toNat&&b.toNat<=126
theorem qW(s:Str):Fn ŷ Ml [.str s] (.bool (s.all sign)):=by
 refine yoB Na λho=>?_;simp only[oks,ok,and_true]at ho;simp;generalize hr:s.all sign=r;refine ah (λk:Nat=>⟨[(0,.str s),(3,.int .i64 k)],[]⟩) (λk=>k<=s.length/\(s.drop k).all sign=r) (λk=>s.length-k) [] _ 0 rfl (by simp) (by simp[*]) ?_
 rintro k ⟨hk,hi⟩ N hN;rcases place s k hk with⟨he,hd⟩|⟨hlt,x,hx,hd⟩<;>rw[hd]at hi<;>replace hi:=hid hi
 ·simp[he]
  simpa using hi.out
 ·simp(disch:=omega) [hx]
  repeat' (first|(refine BrKd.mk (λh=>?_) (λh=>?_)<;>simp(disch:=omega) [*])|(refine BrK.mk (λh=>?_) (λh=>?_)<;>simp(disch:=omega) [*]))
  all_goals first
   |(refine hN.out _<|Nx.mk (k+1) (by simp) ⟨by omega,?_⟩ (by omega);simpa(disch:=omega) [*,decide_eq_true,decide_eq_false,sign]using hi.out)
   |(first|simpa(disch:=omega) [*,decide_eq_true,decide_eq_false,sign]using hi.out.symm|simpa(disch:=omega) [*,decide_eq_true,decide_eq_false,sign]using hi.out)
def scheme(s:Str):Bool:=s.all small&&(1<=s.length&&s.length<=16)
theorem w5(s:Str):Fn ŷ Ju [.str s] (.bool (scheme s)):=by
 refine yoB JZ λho=>?_;simp only[oks,ok,and_true]at ho;simp;generalize hr:scheme s=r;refine ah (λk:Nat=>⟨[(0,.str s),(3,.int .i64 k)],[]⟩) (λk=>k<=s.length/\((s.drop k).all small&&(1<=s.length&&s.length<=16))=r) (λk=>s.length-k) [] _ 0 rfl (by simp) (by simp[<-hr,scheme]) ?_
 rintro k ⟨hk,hi⟩ N hN;rcases place s k hk with⟨he,hd⟩|⟨hlt,x,hx,hd⟩<;>rw[hd]at hi<;>replace hi:=hid hi
 ·simp[he]
  repeat' (first|(refine BrKd.mk (λh=>?_) (λh=>?_)<;>simp[*])|(refine BrK.mk (λh=>?_) (λh=>?_)<;>simp(disch:=omega) [*]))
  all_goals (first|simpa(disch:=omega) [*,decide_eq_true,decide_eq_false,]using hi.out.symm|simpa(disch:=omega) [*,decide_eq_true,decide_eq_false,]using hi.out)
 ·simp(disch:=omega) [hx]
  repeat' (first|(refine BrKd.mk (λh=>?_) (λh=>?_)<;>simp(disch:=omega) [*])|(refine BrK.mk (λh=>?_) (λh=>?_)<;>simp(disch:=omega) [*]))
  all_goals first
   |(refine hN.out _<|Nx.mk (k+1) (by simp) ⟨by omega,?_⟩ (by omega);simpa(disch:=omega) [*,decide_eq_true,decide_eq_false,small]using hi.out)
   |(first|simpa(disch:=omega) [*,decide_eq_true,decide_eq_false,small]using hi.out.symm|simpa(disch:=omega) [*,decide_eq_true,decide_eq_false,small]using hi.out)
theorem bk{α:Type}{l:List α}{k x}(h:l[k]?=ś x):l.take (k+1)=l.take k++[x]:=by rw[List.take_add_one,h];rfl
theorem take_drop{α:Type}{l:List α}{k j x}(h:l[j]?=ś x)(hj:j<k):(l.take k).drop j=x::(l.take k).drop (j+1):=
 r5 (by rw[zAf,if_pos hj,h])
def wordOK(sch:Bool)(x:Str):Bool:=if sch then scheme x else(x.all sign&&decide (x.length<=40))
def wordsGo(sch:Bool):List Str->List Str->Bool
 |_,[]=>ť
 |pre,x::l=>wordOK sch x&&(!(hasS pre x)&&wordsGo sch (pre++[x]) l)
def words(l:List Str)(sch:Bool):Bool:=wordsGo sch [] l&&decide (l.length<=8)
theorem OJ (l) (sch):Fn ŷ Mk [.seq 1 (l.map .str),.bool sch] (.bool (words l sch)):=by
 refine yoB M9 λho=>?_
 simp only [oks,ok,and_true] at ho
 have hlen:l.length≤140737488355328:=by have:=ho.1; simpa using this
 simp (disch:=omega) [-zAa]
 generalize hr:words l sch=r
 refine ah (λk:Nat=>⟨[(0,.seq 1 (l.map .str)),(1,.bool sch),(5,.int .i64 k)],[]⟩) (λk=>k≤l.length∧(wordsGo sch (l.take k) (l.drop k) && decide (l.length≤8))=r) (λk=>l.length - k) [] _ 0 rfl (by simp [*]) (by simp [*,←hr,words]) ?_
 rintro k ⟨hk,hi⟩ N hN
 rcases place l k hk with ⟨he,hd⟩ | ⟨hlt,x,hx,hd⟩<;>rw [hd] at hi<;>replace hi:=hid hi
 · simp (disch:=omega) [-zAa,he]
   simpa [wordsGo] using hi.out
 · rcases Bool.eq_false_or_eq_true sch with hsch | hsch
   all_goals
    simp (disch:=omega) [-zAa,hx]
    repeat' (first | (refine BrKd.mk (λh=>?_) (λh=>?_)<;>simp (disch:=omega) [*]) | (refine BrK.mk (λh=>?_) (λh=>?_)<;>simp (disch:=omega) [*]) | (refine aa (w5 _) rfl (λ_=>?_)<;>simp (disch:=omega) [*]) | (refine aw (w5 _) rfl ?_<;>simp (disch:=omega) [*]) | (refine aa (qW _) rfl (λ_=>?_)<;>simp (disch:=omega) [*]) | (refine aw (qW _) rfl ?_<;>simp (disch:=omega) [*]))
    all_goals first
     | (first | simpa (disch:=omega) [*,decide_eq_true,decide_eq_false,wordOK,wordsGo] using hi.out.symm | simpa (disch:=omega) [*,decide_eq_true,decide_eq_false,wordOK,wordsGo] using hi.out)
     | (have hi:=hi.out; simp (disch:=omega) [wordOK,wordsGo, *,decide_eq_true,decide_eq_false] at hi; replace hi:=hid hi
        refine ah (λj:Nat=>⟨[(0,.seq 1 (l.map .str)),(1,.bool sch),(5,.int .i64 k),(8,.int .i64 j)],[]⟩) (λj=>j≤k∧hasS (l.take k) x=hasS ((l.take k).drop j) x) (λj=>k - j) [] _ 0 rfl (by simp [*]) (by simp) ?_
        rintro j ⟨hj,hi2⟩ N2 hN2
        by_cases hlt2:j < k
        · obtain ⟨y,hy⟩:=av (l:=l) (k:=j) (by omega)
          rw [take_drop hy hlt2,hasS] at hi2; replace hi2:=hid hi2
          simp (disch:=omega) [*]
          repeat' (first | (refine BrKd.mk (λh=>?_) (λh=>?_)<;>simp (disch:=omega) [*]) | (refine BrK.mk (λh=>?_) (λh=>?_)<;>simp (disch:=omega) [*]))
          all_goals first
           | (refine hN2.out _<|Nx.mk (j + 1) (by simp [*]) ⟨by omega,?_⟩ (by omega); rw [hi2.out,if_neg h])
           | (have hi2:=hi2.out; rw [if_pos h] at hi2; have hi:=hi.out; simp [hi2] at hi; simp [hi])
        · have:(l.take k).drop j=[]:=by simp; omega
          rw [this,hasS] at hi2
          have hi:=hi.out; simp [hi2] at hi; replace hi:=hid hi
          simp (disch:=omega) [*]
          refine hN.out _<|Nx.mk (k + 1) (by simp [*]) ⟨by omega,?_⟩ (by omega)
          rw [bk hx]; simpa [*] using hi.out)
def sumB:Str->Nat
 |[]=>0
 |b::s=>b.toNat+sumB s
def pool12:List Str:=[[97,42],[40,97,124,98,41,43],[91,48,45,57,93,43],[120,46,121],[91,94,97,93,42],[],[97,124,98,98,124,99]]
def pickW(sch:Bool):List Str->List Str->List Str
 |out,[]=>out
 |out,w::l=>pickW sch (if words (out++[w]) sch then out++[w]else out) l
def kind12(k:Int):Int:=1+(if k<0 then -(k+1)else k)%4
def good12(c:Constraint):Constraint:=
 let k:=kind12 c.kind
 if k=4 then⟨4,[],(pool12[sumB c.regex%7]?).getD []⟩
 else
  let ws:=if k=1 then[]else pickW (decide (k=3)) [] (c.words.take 4)
  ⟨k,if k=2/\ws=[]then[[120]]else ws,[]⟩
theorem kind12_range(k):1<=kind12 k/\kind12 k<=4:=by
 unfold kind12;have h:0<=(if k<0 then -(k+1)else k):=by split<;>omega
 generalize(if k<0 then -(k+1)else k)=m at h
 omega
theorem pickW_len(sch):∀(l out:List Str),(pickW sch out l).length<=out.length+l.length
 |[],out=>by simp[pickW]
 |w::l,out=>by
   simp only[pickW];split
   ·have:=pickW_len sch l (out++[w]);simp at this⊢;omega
   ·have:=pickW_len sch l out;simp at this⊢;omega
theorem TR(c)(hR:c.regex.length<=1125899906842624):Fn ŷ Rz [c.v] (good12 c).v:=by
 refine yoB Sr λho=>?_;simp only[oks,and_true]at ho;obtain⟨kd,ws,rx⟩:=c;simp at ho hR;generalize hg:good12 ⟨kd,ws,rx⟩=g;have hrg:=kind12_range kd;have hgd:g=good12 ⟨kd,ws,rx⟩:=hg.symm;simp only[good12]at hgd;simp;refine BrKd.mk (λh=>?_) (λh=>?_)
 all_goals
  first
   |(have e:1+ -(kd+1)%4=kind12 kd:=by rw[kind12,if_pos h])
   |(have e:1+kd%4=kind12 kd:=by rw[kind12,if_neg h])
  simp(disch:=omega);rw[e];clear e;generalize kind12 kd=q at *;refine BrKd.mk (λhq=>?_) (λhq=>?_)
  ·simp
   refine ah (λ(p:Nat×Nat)=>⟨[(1,.ptr 0 0),(2,.ptr 1 0),(4,.ptr 2 0),(5,.seq 1 (pool12.map .str)),(6,.int .i64 p.2),(7,.int .i64 p.1)],
    [ś (.box [.int .i64 kd,.seq 1 (ws.map .str),.str rx]),ś (.box [.int .i64 0,.nil 1,.str []]),ś (.box [.int .i64 q,.nil 1,.str []])]⟩)
    (λp=>p.1<=rx.length/\p.2<=255*p.1/\p.2+sumB (rx.drop p.1)=sumB rx) (λp=>rx.length-p.1) [] _ (0,0) rfl (by simp[pool12]) (by simp) ?_
   rintro⟨k,n⟩ ⟨hk,hn,hi⟩ N hN;simp only at hk hn hi;rcases place rx k hk with⟨he,hd⟩|⟨hlt,x,hx,hd⟩<;>rw[hd,sumB]at hi
   ·have hm:n%7<7:=zDc _ (by decide)
    have ht:((n:Int)%7).toNat=n%7:=by omega
    obtain⟨y,hy⟩:=av (l:=pool12) (k:=n%7) hm;have hpl:pool12.length=7:=rfl;subst hq;rw[if_pos rfl]at hgd;simp only[zDf]at hi;simp(disch:=omega) [hpl,ht,hy];rw[hi]at hy;simp[hgd,hy]
   ·have hx8:=x.toNat_lt
    simp(disch:=omega) [hx];refine hN.out _<|Nx.mk (k+1,n+x.toNat) (by simp) ⟨by simp only;omega,by simp only;omega,by simp only;omega⟩ (by simp only;omega)
  ·rw[if_neg hq]at hgd
   generalize hw:(if q=1 then[]else pickW (decide (q=3)) [] (zAc 4 ws))=w at hgd
   have hl4:(zAc 4 ws).length=min 4 ws.length:=zAe;simp
   refine ah (λ(p:Nat×List Str)=>⟨[(1,.ptr 0 0),(2,.ptr 1 0),(4,.ptr 2 0),(8,.int .i64 p.1)],
    [ś (.box [.int .i64 kd,.seq 1 (ws.map .str),.str rx]),ś (.box [.int .i64 0,.nil 1,.str []]),ś (.box [.int .i64 q,.ref 3 p.2.length,.str []]),ś (.arr aA 1 (p.2.map .str))]⟩)
    (λp=>p.1<=(zAc 4 ws).length/\p.2.length<=p.1/\(if q=1 then p.2 else pickW (decide (q=3)) p.2 ((zAc 4 ws).drop p.1))=w) (λp=>(zAc 4 ws).length-p.1) [.b 2 1 aA 1] _ (0,[]) rfl (by simp) (by simp[hw]) ?_
   rintro⟨k,out⟩ ⟨hk,hol,hi⟩ N hN;simp only at hk hol hi;by_cases hq1:q=1
   ·rw[if_pos hq1]at hi
    subst hi;simp[hq1]
    repeat' (first|(refine BrKd.mk (λh=>?_) (λh=>?_)<;>simp[*])|(refine BrK.mk (λh=>?_) (λh=>?_)<;>simp(disch:=omega) [*]))
    all_goals first|omega|simp[hgd,hq1]
   ·rw[if_neg hq1]at hi
    rcases place (zAc 4 ws) k hk with⟨he,hd⟩|⟨hlt,x,hx,hd⟩<;>rw[hd,pickW]at hi
    ·subst hi
     clear hw;simp
     repeat' (first|(refine BrKd.mk (λh=>?_) (λh=>?_)<;>simp(disch:=omega) [*])|(refine BrK.mk (λh=>?_) (λh=>?_)<;>simp(disch:=omega) [*]))
     all_goals first|omega|(cases out<;>simp_all)|simp[*]
    ·have hx2:ws[k]?=ś x:=by rw[zAf]at hx;simpa[show k<4 by omega]using hx
     replace hi:=hid hi;simp(disch:=omega) [hx2];refine aa (by simpa using OJ (out++[x]) (decide (q=3))) rfl λ_=>?_
     simp;refine BrK.mk (λhb=>?_) (λhb=>?_)
     ·simp(disch:=omega)
      refine hN.out _<|Nx.mk (k+1,out++[x]) (by simp) ⟨by simp only;omega,by simp;omega,?_⟩ (by simp only;omega)
      have hi:=hi.out;rw[if_pos hb]at hi;simpa[hq1]using hi
     ·simp(disch:=omega)
      refine hN.out _<|Nx.mk (k+1,out) (by simp) ⟨by simp only;omega,by simp only;omega,?_⟩ (by simp only;omega)
      have hi:=hi.out;rw[if_neg (by simp[hb])]at hi
      simpa[hq1]using hi
theorem aed{P d f vs us K σ r}(h:Fn P f us r)(hf:dA (jk r)=ť)(k:ok (jk r)->K (σ.put d (jk r))):ry (Cn P) d f vs us K σ:=aa (Fn.jk h) hf k
theorem afY{l sz}:dA (if l=[]then V.seq sz l else V.junk)=true:=by split<;>simp[dA, *]
theorem afX{α:Type}{f}{l:List α}{sz}:dA (if l=[]then V.seq sz (l.map f)else V.junk)=true:=by split<;>simp[dA, *]
theorem Qo:∀{l:List Str},dJ (l.map V.str)=ť
 |[]=>rfl
 |_::l=>by simp[Qo (l:=l)]
attribute [simp] afY afX Qo
def XL(s:Str):Bool:=decide (s=[98,114])||(decide (s=[104,114])||(decide (s=[105,109,103])||(decide (s=[105,110,112,117,116])||decide (s=[119,98,114]))))
theorem Db(s:Str):Fn ŷ RH [.str s] (.bool (XL s)):=by
 refine yoB SC λho=>?_;simp only[oks,ok,and_true]at ho;simp[XL]
 repeat' (first|(refine BrKd.mk (λh=>?_) (λh=>?_)<;>simp[*])|(refine BrK.mk (λh=>?_) (λh=>?_)<;>simp(disch:=omega) [*]))
def raw(s:Str):Bool:=decide (s=[115,99,114,105,112,116])||decide (s=[115,116,121,108,101])
theorem Gz(s:Str):Fn ŷ Vq [.str s] (.bool (raw s)):=by
 refine yoB VX λho=>?_;simp only[oks,ok,and_true]at ho;simp[raw]
 repeat' (first|(refine BrKd.mk (λh=>?_) (λh=>?_)<;>simp[*])|(refine BrK.mk (λh=>?_) (λh=>?_)<;>simp(disch:=omega) [*]))
def j6(o:Str):List Str:=
 if o=[112]then[[98,108,111,99,107,113,117,111,116,101],[100,105,118],[104,49],[104,50],[104,114],[108,105],[111,108],[112],[112,114,101],[116,97,98,108,101],[117,108]]
 else if o=[108,105]then[[108,105]]
 else if o=[100,116]\/o=[100,100]then[[100,100],[100,116]]
 else if o=[111,112,116,105,111,110]then[[111,112,116,105,111,110]]
 else if o=[116,100]then[[116,100],[116,114]]
 else if o=[116,114]then[[116,114]]
 else[]
def Fw(o b:Str):Bool:=hasS (j6 o) b
theorem w6(o b:Str):Fn ŷ Jx [.str o,.str b] (.bool (Fw o b)):=by
 refine yoB J4 λho=>?_;simp only[oks,ok,and_true]at ho;simp;generalize hr:Fw o b=r;have hlen:(j6 o).length<=11:=by unfold j6;repeat' (split<;>try simp)
 repeat' (first|(refine BrKd.mk (λh=>?_) (λh=>?_)<;>simp[*])|(refine BrK.mk (λh=>?_) (λh=>?_)<;>simp(disch:=omega) [*]))
 all_goals
  by_cases hc:j6 o=[]
  ·refine ah (λk:Nat=>⟨[(1,.str b),(5,.nil 1),(6,.int .i64 0)],[]⟩) (λk=>k=0) (λk=>0-k) [] _ 0 rfl (by revert hc;simp[*,j6]) rfl ?_
   rintro k rfl N hN;simp[<-hr,Fw,hc,hasS]
  refine ah (λk:Nat=>⟨[(1,.str b),(5,.seq 1 ((j6 o).map .str)),(6,.int .i64 k)],[]⟩) (λk=>k<=(j6 o).length/\hasS ((j6 o).drop k) b=r) (λk=>(j6 o).length-k) [] _ 0 rfl (by revert hc;simp[*,j6]) (by simp[<-hr,Fw]) ?_
  clear hr hc;generalize j6 o=l at *;rintro k ⟨hk,hi⟩ N hN;rcases place l k hk with⟨he,hd⟩|⟨hlt,x,hx,hd⟩<;>rw[hd]at hi<;>replace hi:=hid hi
  ·simp[he]
   simpa[hasS]using hi.out
  ·simp(disch:=omega) [hx]
   repeat' (first|(refine BrKd.mk (λh=>?_) (λh=>?_)<;>simp(disch:=omega))|(refine BrK.mk (λh=>?_) (λh=>?_)<;>simp(disch:=omega) [*]))
   all_goals first
    |(refine hN.out _<|Nx.mk (k+1) (by simp) ⟨by omega,?_⟩ (by omega);simpa(disch:=omega) [*,decide_eq_true,decide_eq_false,hasS]using hi.out)
    |(first|simpa(disch:=omega) [*,decide_eq_true,decide_eq_false,hasS]using hi.out.symm|simpa(disch:=omega) [*,decide_eq_true,decide_eq_false,hasS]using hi.out)
def PL:List Str->List Str->Bool
 |_,[]=>ť
 |pre,x::l=>!hasS pre x&&PL (pre++[x]) l
def ab6(l:List Str):Bool:=PL [] l
theorem TM(l):Fn ŷ Rq [.seq 1 (l.map .str)] (.bool (ab6 l)):=by
 refine yoB Sk λho=>?_;simp only[oks,ok,and_true]at ho;have hlen:l.length<=140737488355328:=by have:=ho.1;simpa using this
 simp;generalize hr:ab6 l=r;refine ah (λk:Nat=>⟨[(0,.seq 1 (l.map .str)),(3,.int .i64 k)],[]⟩) (λk=>k<=l.length/\PL (l.take k) (l.drop k)=r) (λk=>l.length-k) [] _ 0 rfl (by simp) (by simp[<-hr,ab6]) ?_
 rintro k ⟨hk,hi⟩ N hN;rcases place l k hk with⟨he,hd⟩|⟨hlt,x,hx,hd⟩<;>rw[hd]at hi<;>replace hi:=hid hi
 ·simp[he]
  simpa[PL]using hi.out
 ·simp(disch:=omega) [hx]
  refine aw (by simpa[List.map_take]using mf (l.take k) x) rfl ?_
  simp;refine BrK.mk (λh=>?_) (λh=>?_)
  ·simp
   have hi:=hi.out;simpa[PL,h]using hi
  ·simp(disch:=omega)
   refine hN.out _<|Nx.mk (k+1) (by simp) ⟨by omega,?_⟩ (by omega)
   have hi:=hi.out;simp[PL,h]at hi;rw[bk hx];exact hi
def ja:Str:=[35,116,101,120,116]
def dU:Str:=[35,99,111,109,109,101,110,116]
def zl(p:Policy)(par x:Str):Bool:=!(XL par||(raw par&& !decide (x=ja)))&&((decide (x=ja)||decide (x=dU))||((aJ p.elements x).isSome&& !Fw par x))
def kids(p:Policy)(par:Str)(l:List Str):Bool:=l.all (zl p par)&&ab6 l
theorem TN(p)(par:Str)(l):Fn ŷ Rr [p.v,.str par,.seq 1 (l.map .str)] (.bool (kids p par l)):=by
 refine yoB Sl λho=>?_;simp only[oks,ok,and_true]at ho;have hlen:l.length<=140737488355328:=by have:=ho.2.2.1;simpa using this
 simp;refine aa (Db _) rfl λ_=>?_;simp;refine aa (Gz _) rfl λ_=>?_;simp;generalize hr:kids p par l=r;refine ah (λk:Nat=>⟨[(1,.str par),(2,.seq 1 (l.map .str)),(3,.ptr 0 0),(7,.bool (XL par)),(8,.bool (raw par)),(9,.int .i64 k)],[ś (.box [.seq 1 (p.top.map .str),.seq 3 (p.elements.map Allowed.v),.seq 1 (p.unwrap.map .str)])]⟩) (λk=>k<=l.length/\((l.drop k).all (zl p par)&&ab6 l)=r) (λk=>l.length-k) [] _ 0 rfl (by simp) (by simp[<-hr,kids]) ?_
 rintro k ⟨hk,hi⟩ N hN;rcases place l k hk with⟨he,hd⟩|⟨hlt,x,hx,hd⟩<;>rw[hd]at hi<;>replace hi:=hid hi
 ·simp[he]
  refine aa (TM _) rfl λ_=>?_;have hi:=hi.out;simp at hi;simp[hi]
 ·simp only[zBe]at hi
  have hfin:zl p par x=ğ->r=false:=λh=>by have hi:=hi.out;rw[h]at hi;simpa using hi.symm
  have hgo:zl p par x=ť->((l.drop (k+1)).all (zl p par)&&ab6 l)=r:=λh=>by have hi:=hi.out;rw[h]at hi;simpa using hi
  replace hfin:=hid hfin;replace hgo:=hid hgo;simp(disch:=omega)
  repeat' (first
   |(refine BrKd.mk (λh=>?_) (λh=>?_)<;>simp(disch:=omega) [*])
   |(refine BrK.mk (λh=>?_) (λh=>?_)<;>simp(disch:=omega) [*])
   |(refine aw (Fn.jk (gQ p x)) (by simp) ?_<;>simp[*])
   |(refine aa (w6 par x) rfl (λ_=>?_)<;>simp))
  all_goals
   cases hf:aJ p.elements x
   all_goals
    first
    |(exfalso;simp_all;done)
    |(refine hN.out _<|Nx.mk (k+1) (by simp[*]) ⟨by omega,hgo.out ?_⟩ (by omega);simp_all[zl,ja,dU];done)
    |(rw[hfin.out ?_];simp_all[zl,ja,dU];done)
    |(refine(hfin.out ?_).symm;simp_all[zl,ja,dU];done)
    |(refine(hfin.out ?_);simp_all[zl,ja,dU];done)
def zu(p:Policy)(par:Str):List Str->List Str->List Str
 |out,[]=>out
 |out,x::l=>zu p par (if kids p par (out++[x])then out++[x]else out) l
def lA(p:Policy)(par:Str)(l:List Str):List Str:=zu p par [] (l.take 8)
theorem E3(p)(par):∀(l out:List Str),(zu p par out l).length<=out.length+l.length
 |[],out=>by simp[zu]
 |w::l,out=>by
   simp only[zu];split
   ·have:=E3 p par l (out++[w]);simp at this⊢;omega
   ·have:=E3 p par l out;simp at this⊢;omega
theorem WG(p)(par)(l):(lA p par l).length<=8:=by
 have:=E3 p par (l.take 8) [];simp at this;simp only[lA];omega
theorem uu(p)(par:Str)(l):FnN ŷ G9 [p.v,.str par,.seq 1 (l.map .str)] (.seq 1 ((lA p par l).map .str)):=by
 refine FnN.of_image mixed Ho.1 Ho.2 rfl λho=>?_;have hlen:l.length<=140737488355328:=by have:=ho.2.2.1.1;simpa using this
 simp;generalize hw:lA p par l=w;have hl8:(zAc 8 l).length=min 8 l.length:=zAe
 refine ah (λ(q:Nat×List Str)=>⟨[(1,.str par),(2,.seq 1 (l.map .str)),(3,.ptr 0 0),(7,.ref 1 q.2.length),(8,.int .i64 q.1)],
  [ś (.box [.seq 1 (p.top.map .str),.seq 3 (p.elements.map Allowed.v),.seq 1 (p.unwrap.map .str)]),ś (.arr aA 1 (q.2.map .str))]⟩)
  (λq=>q.1<=(zAc 8 l).length/\q.2.length<=q.1/\zu p par q.2 ((zAc 8 l).drop q.1)=w) (λq=>(zAc 8 l).length-q.1) [.r 7 aA 1] _ (0,[]) rfl (by simp) (by simp[<-hw,lA]) ?_
 rintro⟨k,out⟩ ⟨hk,hol,hi⟩ N hN;simp only at hk hol hi;rcases place (zAc 8 l) k hk with⟨he,hd⟩|⟨hlt,x,hx,hd⟩<;>rw[hd,zu]at hi
 ·subst hi
  simp
  repeat' (first|(refine BrKd.mk (λh=>?_) (λh=>?_)<;>simp(disch:=omega))|(refine BrK.mk (λh=>?_) (λh=>?_)<;>simp(disch:=omega) [*]))
  all_goals first|omega|simp[*]
 ·have hx2:l[k]?=ś x:=by rw[zAf]at hx;simpa[show k<8 by omega]using hx
  replace hi:=hid hi;simp(disch:=omega) [hx2];refine aa (by simpa using TN p par (out++[x])) rfl λ_=>?_
  simp;refine BrK.mk (λhb=>?_) (λhb=>?_)
  ·simp(disch:=omega)
   refine hN.out _<|Nx.mk (k+1,out++[x]) (by simp) ⟨by simp only;omega,by simp;omega,?_⟩ (by simp only;omega)
   have hi:=hi.out;rw[if_pos hb]at hi;simpa using hi
  ·simp(disch:=omega)
   refine hN.out _<|Nx.mk (k+1,out) (by simp) ⟨by simp only;omega,by simp only;omega,?_⟩ (by simp only;omega)
   have hi:=hi.out;rw[if_neg (by simp[hb])]at hi
   simpa using hi
end Go.Abs.F
end
section
set_option maxHeartbeats 4000000
set_option maxRecDepth 100000
namespace Go.Abs.F
open Go.Proofs
attribute [-simp] getElem?_pos zCi
def Cd:List Str:=[[105,100],[104,114,101,102],[100,97,116,97,45,42]]
def iu(i:Nat)(r:Rule):Rule:=
 if plain (cZ r.name).1 then⟨r.name,good12 r.value,!(cZ r.name).2&&r.req⟩
 else⟨(Cd[i]?).getD [],good12 r.value,!decide (i=2)&&r.req⟩
def gG:Nat->List Rule->List Rule->List Rule
 |_,out,[]=>out
 |i,out,r::l=>gG (i+1) (if hasS (out.map Rule.name) (iu i r).name then out else out++[iu i r]) l
def lu(l:List Rule):List Rule:=gG 0 [] (l.take 3)
theorem vD:∀(l out:List Rule)(i:Nat),(gG i out l).length<=out.length+l.length
 |[],out,i=>by simp[gG]
 |w::l,out,i=>by
   simp only[gG];split
   ·have:=vD l out (i+1);simp at this⊢;omega
   ·have:=vD l (out++[iu i w]) (i+1);simp at this⊢;omega
theorem vE(l):(lu l).length<=3:=by
 have:=vD (l.take 3) [] 0;simp at this;simp only[lu];omega
theorem OI(l)(hR:∀r∈l,r.value.regex.length<=1125899906842624):Fn ŷ Mi [.seq 5 (l.map Rule.v)] (.seq 5 ((lu l).map Rule.v)):=by
 refine yoB M7 λho=>?_;simp only[oks,ok,and_true]at ho;have hlen:l.length<=140737488355328:=by have:=ho.1;simpa using this
 clear ho;simp;generalize hw:lu l=w;have hl3:(zAc 3 l).length=min 3 l.length:=zAe
 refine ah (λ(q:Nat×List Rule)=>⟨[(0,.seq 5 (l.map Rule.v)),(3,.ref 0 q.2.length),(4,.ref 1 q.2.length),(5,.int .i64 q.1)],
  [ś (.arr fU 5 (q.2.map Rule.v)),ś (.arr aA 1 ((q.2.map Rule.name).map .str))]⟩)
  (λq=>q.1<=(zAc 3 l).length/\q.2.length<=q.1/\gG q.1 q.2 ((zAc 3 l).drop q.1)=w) (λq=>(zAc 3 l).length-q.1) [.r 3 fU 5,.r 4 aA 1] _ (0,[]) rfl (by simp) (by simp[<-hw,lu]) ?_
 rintro⟨k,out⟩ ⟨hk,hol,hi⟩ N hN;simp only at hk hol hi;rcases place (zAc 3 l) k hk with⟨he,hd⟩|⟨hlt,x,hx,hd⟩<;>rw[hd,gG]at hi
 ·subst hi
  clear hw;simp
  repeat' (first|(refine BrKd.mk (λh=>?_) (λh=>?_)<;>simp(disch:=omega))|(refine BrK.mk (λh=>?_) (λh=>?_)<;>simp(disch:=omega) [*]))
  all_goals first|omega|simp[*]
 ·have hx2:l[k]?=ś x:=by rw[zAf]at hx;simpa[show k<3 by omega]using hx
  have hRx:=hR x (zAb hx2);replace hi:=hid hi;simp(disch:=omega) [hx2];refine az (TR x.value hRx) (by simp) ?_
  simp[hx2];refine aa (C7 _) rfl λ_=>?_;simp;refine aa (lD _) rfl λ_=>?_;have hk3:k<3:=by omega
  obtain⟨pn,hpn⟩:∃pn,Cd[k]?=ś pn:=av (l:=Cd) (k:=k) (by simpa[Cd]using hk3)
  have hpn2:([.str [105,100],.str [104,114,101,102],.str [100,97,116,97,45,42]]:List V)[k]?=ś (.str pn):=by
   have:(Cd.map V.str)[k]?=ś (.str pn):=by rw[zBj,hpn];rfl
   exact this
  have fin:∀g:Rule,iu k x=g->∀τ:St,τ.nrm [0,3,4,5]=⟨[(0,.seq 5 (l.map Rule.v)),(3,.ref 0 (if hasS (out.map Rule.name) g.name then out else out++[g]).length),(4,.ref 1 (if hasS (out.map Rule.name) g.name then out else out++[g]).length),(5,.int .i64 ((k+1:Nat):Int))],
   [ś (.arr fU 5 ((if hasS (out.map Rule.name) g.name then out else out++[g]).map Rule.v)),ś (.arr aA 1 (((if hasS (out.map Rule.name) g.name then out else out++[g]).map Rule.name).map .str))]⟩->N τ:=by
   intro g hg τ hτ;have hi:=hi.out;rw[hg]at hi;refine hN.out _<|Nx.mk (k+1,if hasS (out.map Rule.name) g.name then out else out++[g]) hτ ⟨by simp only;omega,?_,hi⟩ (by simp only;omega)
   split<;>simp<;>omega
  simp;refine BrK.mk (λhb=>?_) (λhb=>?_)
  ·simp
   refine BrK.mk (λhm=>?_) (λhm=>?_)
   all_goals
    simp[hm];refine aa (by simpa using mf (out.map Rule.name) x.name) rfl λ_=>?_
    simp;refine BrK.mk (λhh=>?_) (λhh=>?_)
    all_goals
     simp(disch:=omega);refine fin _ (by simp only[iu,hb,if_true,hm,Bool.not_true,Bool.not_false,Bool.true_and,zDd];rfl) _ ?_
     simp[hh]
  ·simp[hpn2]
   have hb':iu k x=⟨pn,good12 x.value,!decide (k=2)&&x.req⟩:=by simp[iu,hb,hpn]
   refine BrKd.mk (λhm=>?_) (λhm=>?_)
   all_goals
    simp[hm];refine aa (by simpa using mf (out.map Rule.name) pn) rfl λ_=>?_
    simp;refine BrK.mk (λhh=>?_) (λhh=>?_)
    all_goals
     simp(disch:=omega);refine fin _ hb' _ ?_;simp[hh,hm]
def aaD:List Str:=[[97],[98],[112],[98,114],[115,116,121,108,101]]
def Bx(i:Nat)(s:Str):Str:=if plain s then s else(aaD[i]?).getD []
def m4:Nat->List Allowed->List Allowed->List Allowed
 |_,out,[]=>out
 |i,out,e::l=>m4 (i+1) (if(aJ out (Bx i e.name)).isSome then out else out++[⟨Bx i e.name,[],lu e.rules⟩]) l
theorem yr:∀(l out:List Allowed)(i:Nat),(m4 i out l).length<=out.length+l.length
 |[],out,i=>by simp[m4]
 |w::l,out,i=>by
   simp only[m4];split
   ·have:=yr l out (i+1);simp at this⊢;omega
   ·have:=yr l (out++[⟨Bx i w.name,[],lu w.rules⟩]) (i+1);simp at this⊢;omega
def lm(els:List Allowed)(k:Nat)(own:List Str):List Allowed:=
 match els[k]? with
 |some e=>els.set k ⟨e.name,lA ⟨[],els,[]⟩ e.name own,e.rules⟩
 |none=>els
def iO:Nat->List Allowed->List Allowed->List Allowed
 |_,els,[]=>els
 |k,els,e::l=>iO (k+1) (lm els k e.kids) l
def IJ:List Str->List Str->List Str
 |out,[]=>out
 |out,x::l=>IJ (if plain x&& !hasS out x then out++[x]else out) l
def ai(p:Policy):Policy:=
 let a:=m4 0 [] (p.elements.take 5)
 let b:=iO 0 a (p.elements.take a.length)
 ⟨lA ⟨[],b,[]⟩ [] p.top,b,IJ [] (p.unwrap.take 4)⟩
theorem j3(p)(hR:∀e∈p.elements,∀r∈e.rules,r.value.regex.length<=1125899906842624):Fn ŷ Ru [p.v] (ai p).v:=by
 refine yoB So λho=>?_;simp only[oks,and_true]at ho;have hlt:p.top.length<=140737488355328:=by have:=ho;simp at this;exact this.1.1
 have hle:p.elements.length<=140737488355328:=by have:=ho;simp at this;exact this.2.1.1
 have hlu:p.unwrap.length<=140737488355328:=by have:=ho;simp at this;exact this.2.2.1
 clear ho;simp;generalize hg:ai p=g;have hgd:g=ai p:=hg.symm;simp only[ai]at hgd;have hl5:(zAc 5 p.elements).length=min 5 p.elements.length:=zAe;have hal:=yr (p.elements.take 5) [] 0;generalize ha:m4 0 [] (p.elements.take 5)=els at hgd hal
 refine ah (λ(q:Nat×List Allowed)=>⟨[(1,.ptr 0 0),(2,.ptr 1 0),(3,.ptr 2 0),(4,.int .i64 q.1)],
  [ś (.box [.seq 1 (p.top.map .str),.seq 3 (p.elements.map Allowed.v),.seq 1 (p.unwrap.map .str)]),ś (.box [.nil 1,.nil 3,.nil 1]),ś (.box [.nil 1,.ref 3 q.2.length,.nil 1]),ś (.arr cR 3 (q.2.map Allowed.v))]⟩)
  (λq=>q.1<=(zAc 5 p.elements).length/\q.2.length<=q.1/\m4 q.1 q.2 ((zAc 5 p.elements).drop q.1)=els) (λq=>(zAc 5 p.elements).length-q.1) [.b 2 1 cR 3] _ (0,[]) rfl (by simp) (by simp[<-ha]) ?_
 rintro⟨k,out⟩ ⟨hk,hol,hi⟩ N hN;simp only at hk hol hi;rcases place (zAc 5 p.elements) k hk with⟨he,hd⟩|⟨hlt,x,hx,hd⟩<;>rw[hd,m4]at hi
 ·subst hi
  have hol5:out.length<=p.elements.length/\out.length<=5:=by simp only[zBf]at hal;omega
  have hkk:(k<p.elements.length/\k=5)\/k=p.elements.length:=by omega
  clear hd hN hol hk he hal ha;generalize hb:iO 0 out (p.elements.take out.length)=bs at hgd;rcases hkk with hkk|hkk
  all_goals
   simp(disch:=omega)
   refine ah (λ(q:Nat×List Allowed)=>⟨[(1,.ptr 0 0),(2,.ptr 1 0),(3,.ptr 2 0),(10,.int .i64 q.1)],
    [ś (.box [.seq 1 (p.top.map .str),.seq 3 (p.elements.map Allowed.v),.seq 1 (p.unwrap.map .str)]),ś (.box [.nil 1,.nil 3,.nil 1]),ś (.box [.nil 1,.ref 3 q.2.length,.nil 1]),ś (.arr cR 3 (q.2.map Allowed.v))]⟩)
    (λq=>q.1<=(p.elements.take out.length).length/\q.2.length=out.length/\iO q.1 q.2 ((p.elements.take out.length).drop q.1)=bs) (λq=>(p.elements.take out.length).length-q.1) [] _ (0,out) rfl (by simp) (by simp[<-hb]) ?_
   have hlo:(p.elements.take out.length).length=out.length:=by rw[zAe];omega
   rintro⟨k,els⟩ ⟨hk,hol,hi⟩ N hN;simp only at hk hol hi;rcases place (p.elements.take out.length) k hk with⟨he,hd⟩|⟨hlt,x,hx,hd⟩<;>rw[hd,iO]at hi
   ·subst hi
    simp(disch:=omega) [he];refine fD (by simpa using uu ⟨[],els,[]⟩ [] p.top) λhok=>?_
    simp;generalize hu:IJ [] (p.unwrap.take 4)=us at hgd;have hl4:(zAc 4 p.unwrap).length=min 4 p.unwrap.length:=zAe;clear hN
    refine ah (λ(q:Nat×List Str)=>⟨[(1,.ptr 0 0),(2,.ptr 1 0),(3,.ptr 2 0),(12,.int .i64 q.1)],
     [ś (.box [.seq 1 (p.top.map .str),.seq 3 (p.elements.map Allowed.v),.seq 1 (p.unwrap.map .str)]),ś (.box [.nil 1,.nil 3,.nil 1]),ś (.box [.seq 1 ((lA ⟨[],els,[]⟩ [] p.top).map .str),.ref 3 els.length,.ref 4 q.2.length]),ś (.arr cR 3 (els.map Allowed.v)),ś (.arr aA 1 (q.2.map .str))]⟩)
     (λq=>q.1<=(zAc 4 p.unwrap).length/\q.2.length<=q.1/\IJ q.2 ((zAc 4 p.unwrap).drop q.1)=us) (λq=>(zAc 4 p.unwrap).length-q.1) [.b 2 2 aA 1] _ (0,[]) rfl (by simp) (by simp[<-hu]) ?_
    rintro⟨j,uw⟩ ⟨hj,hul,hi⟩ N hN;simp only at hj hul hi;rcases place (zAc 4 p.unwrap) j hj with⟨he2,hd2⟩|⟨hlt2,y,hy,hd2⟩<;>rw[hd2,IJ]at hi
    ·subst hi
     have hjj:(j<p.unwrap.length/\j=4)\/j=p.unwrap.length:=by omega
     rcases hjj with hjj|hjj
     all_goals
      simp(disch:=omega);simp[hgd]
    ·have hy2:p.unwrap[j]?=ś y:=by rw[zAf]at hy;simpa[show j<4 by omega]using hy
     replace hi:=hid hi;simp(disch:=omega) [hy2];refine aa (lD _) rfl λ_=>?_;simp[hy2];refine aw (by simpa using mf uw y) rfl ?_
     simp;have yes:plain y=ť->hasS uw y=ğ->IJ (uw++[y]) ((zAc 4 p.unwrap).drop (j+1))=us:=λh h'=>by have hi:=hi.out;simpa[h,h']using hi
     have no:(plain y&& !hasS uw y)=ğ->IJ uw ((zAc 4 p.unwrap).drop (j+1))=us:=λh=>by have hi:=hi.out;rw[if_neg (by simp[h])]at hi;exact hi
     replace yes:=hid yes;replace no:=hid no;refine BrK.mk (λh1=>?_) (λh1=>?_)
     ·simp[h1]
      refine BrK.mk (λh2=>?_) (λh2=>?_)
      ·simp(disch:=omega)
       refine hN.out _<|Nx.mk (j+1,uw) (by simp) ⟨by simp only;omega,by simp only;omega,no.out (by simp[h2])⟩ (by simp only;omega)
      ·simp(disch:=omega) [hy2]
       refine hN.out _<|Nx.mk (j+1,uw++[y]) (by simp) ⟨by simp only;omega,by simp;omega,yes.out h1 h2⟩ (by simp only;omega)
     ·simp(disch:=omega) [h1]
      refine hN.out _<|Nx.mk (j+1,uw) (by simp) ⟨by simp only;omega,by simp only;omega,no.out (by simp[h1])⟩ (by simp only;omega)
   ·have hx2:p.elements[k]?=ś x:=by rw[zAf]at hx;simpa[show k<out.length by omega]using hx
    obtain⟨e,hex⟩:=av (l:=els) (k:=k) (by omega)
    replace hi:=hid hi;simp(disch:=omega) [hx2,hex];refine ol (by simpa using uu ⟨[],els,[]⟩ e.name x.kids) ?_
    simp(disch:=omega) [hex];have hi:=hi.out;have hsk:lm els k x.kids=els.set k ⟨e.name,lA ⟨[],els,[]⟩ e.name x.kids,e.rules⟩:=by simp[lm,hex]
    rw[hsk]at hi;refine hN.out _<|Nx.mk (k+1,els.set k ⟨e.name,lA ⟨[],els,[]⟩ e.name x.kids,e.rules⟩) (by simp) ⟨by simp only;omega,by simp;omega,hi⟩ (by simp only;omega)
 ·have hx2:p.elements[k]?=ś x:=by rw[zAf]at hx;simpa[show k<5 by omega]using hx
  have hRx:=hR x (zAb hx2);obtain⟨pn,hpn⟩:∃pn,aaD[k]?=ś pn:=av (l:=aaD) (k:=k) (by simp only[aaD,zAd,zBf];omega)
  have hpn2:([.str [97],.str [98],.str [112],.str [98,114],.str [115,116,121,108,101]]:List V)[k]?=ś (.str pn):=by
   have:(aaD.map V.str)[k]?=ś (.str pn):=by rw[zBj,hpn];rfl
   exact this
  replace hi:=hid hi;simp(disch:=omega) [hx2];refine aa (lD _) rfl λ_=>?_;simp;refine BrK.mk (λhb=>?_) (λhb=>?_)
  all_goals
   first
    |(have hnm:Bx k x.name=x.name:=by rw[Bx,if_pos hb])
    |(have hnm:Bx k x.name=pn:=by rw[Bx,if_neg (by simp[hb]),hpn];rfl)
   have hi:=hi.out;rw[hnm]at hi;replace hi:=hid hi;simp[hpn2];refine aed (by simpa using gQ ⟨[],out,[]⟩ _) (by simp) λ_=>?_
   simp;refine BrK.mk (λhf=>?_) (λhf=>?_)
   ·simp(disch:=omega)
    have hi:=hi.out;rw[if_pos hf]at hi;refine hN.out _<|Nx.mk (k+1,out) (by simp) ⟨by simp only;omega,by simp only;omega,hi⟩ (by simp only;omega)
   ·simp[hx2]
    have hi:=hi.out;rw[if_neg (by simp[hf])]at hi
    refine az (OI x.rules hRx) (by simp) ?_
    simp(disch:=omega);refine hN.out _<|Nx.mk (k+1,out++[⟨_,[],lu x.rules⟩]) (by simp) ⟨by simp only;omega,by simp;omega,hi⟩ (by simp only;omega)
def fdx{α:Type}(f:α->Bool):Nat->List α->Int
 |_,[]=>-1
 |k,x::l=>if f x then k else fdx f (k+1) l
theorem Ir{α}(f):∀(l:List α)(k:Nat),decide (0<=fdx f k l)=l.any f
 |[],k=>by simp[fdx]
 |x::l,k=>by
   simp only[fdx,zDe];split
   ·rename_i h;simp[h]
   ·rename_i h;simp only[zDa]at h;rw[Ir f l (k+1),h];rfl
theorem Xs(s):∀l:List Str,l.any (λx=>decide (s=x))=hasS l s
 |[]=>rfl
 |x::l=>by
   simp only[zDe,hasS,Xs s l];by_cases h:x=s
   ·simp[h]
   ·have:¬s=x:=λe=>h e.symm
    simp[h,this]
theorem kx(l)(s:Str):Fn ŷ lR [.seq 1 (l.map .str),.str s] (.int .i64 (fdx (λx=>decide (s=x)) 0 l)):=by
 refine yoB lZ λho=>?_;simp only[oks,ok,and_true]at ho;have hlen:l.length<=140737488355328:=by have:=ho.1.1;simpa using this
 clear ho;simp;generalize hr:fdx (λx=>decide (s=x)) 0 l=r;refine ah (λk:Nat=>⟨[(0,.seq 1 (l.map .str)),(1,.str s),(7,.int .i64 l.length),(8,.int .i64 k)],[]⟩) (λk=>k<=l.length/\fdx (λx=>decide (s=x)) k (l.drop k)=r) (λk=>l.length-k) [] _ 0 rfl (by simp) (by simp[*]) ?_
 rintro k ⟨hk,hi⟩ N hN;rcases place l k hk with⟨he,hd⟩|⟨hlt,x,hx,hd⟩<;>rw[hd]at hi<;>replace hi:=hid hi
 ·simp[he]
  simpa[fdx]using hi.out
 ·simp(disch:=omega) [hx]
  refine BrKd.mk (λh=>?_) (λh=>?_)
  ·simp
   have hi:=hi.out;simpa[fdx,h]using hi
  ·simp(disch:=omega)
   refine hN.out _<|Nx.mk (k+1) (by simp) ⟨by omega,?_⟩ (by omega)
   have hi:=hi.out;simpa[fdx,h]using hi
theorem f_slices_Contains_string(l)(s:Str):Fn ŷ jx [.seq 1 (l.map .str),.str s] (.bool (hasS l s)):=by
 refine yoB jN λho=>?_;simp only[oks,ok,and_true]at ho;simp;refine aa (kx _ _) rfl λ_=>?_;simp;rw[Ir,Xs]
def dH(s p:Str):Bool:=decide (p.length<=s.length)&&decide (s.take p.length=p)
theorem je(s p:Str):Fn ŷ jE [.str s,.str p] (.bool (dH s p)):=by
 refine yoB jR λho=>?_;simp only[oks,ok,and_true]at ho;simp[dH]
 repeat' (first|(refine BrKd.mk (λh=>?_) (λh=>?_)<;>simp[*])|(refine BrK.mk (λh=>?_) (λh=>?_)<;>simp(disch:=omega) [*]))
theorem mZ(s p:Str):Fn ŷ yD [.str s,.str p] (.bool (dH s p)):=by
 refine yoB yK λho=>?_;simp only[oks,ok,and_true]at ho;simp
 repeat' (first|(refine BrKd.mk (λh=>?_) (λh=>?_)<;>simp(disch:=omega) [*])|(refine BrK.mk (λh=>?_) (λh=>?_)<;>simp(disch:=omega) [*])|(refine aa (je _ _) rfl (λ_=>?_)<;>simp)|(refine aw (je _ _) rfl ?_<;>simp(disch:=omega) [*]))
theorem f_lang_isValue(s:Str):Fn ŷ JB [.str s] (.bool (s.all sign)):=by
 refine yoB J9 λho=>?_;simp only[oks,ok,and_true]at ho;simp;generalize hr:s.all sign=r;refine ah (λk:Nat=>⟨[(0,.str s),(3,.int .i64 k)],[]⟩) (λk=>k<=s.length/\(s.drop k).all sign=r) (λk=>s.length-k) [] _ 0 rfl (by simp) (by simp[*]) ?_
 rintro k ⟨hk,hi⟩ N hN;rcases place s k hk with⟨he,hd⟩|⟨hlt,x,hx,hd⟩<;>rw[hd]at hi<;>replace hi:=hid hi
 ·simp[he]
  simpa using hi.out
 ·simp(disch:=omega) [hx]
  repeat' (first|(refine BrKd.mk (λh=>?_) (λh=>?_)<;>simp(disch:=omega) [*])|(refine BrK.mk (λh=>?_) (λh=>?_)<;>simp(disch:=omega) [*]))
  all_goals first
   |(refine hN.out _<|Nx.mk (k+1) (by simp) ⟨by omega,?_⟩ (by omega);simpa(disch:=omega) [*,decide_eq_true,decide_eq_false,sign]using hi.out)
   |(first|simpa(disch:=omega) [*,decide_eq_true,decide_eq_false,sign]using hi.out.symm|simpa(disch:=omega) [*,decide_eq_true,decide_eq_false,sign]using hi.out)
theorem eZ(c):∀s:Str,Lib.indexByte s c<(s.length:Int)+1/\(0<=Lib.indexByte s c->Lib.indexByte s c<s.length)
 |[]=>by simp[Lib.indexByte]
 |b::l=>by
   have:=eZ c l;unfold Lib.indexByte;simp only[zAd];split
   ·omega
   ·split
    ·omega
    ·omega
theorem cF(s:Str)(c):Fn ŷ b9 [.str s,.int .u8 c.toNat] (.int .i64 (Lib.indexByte s c)):=by
 refine Fn.ext Tryz.func243 (by kernel_rfl) (by kernel_rfl) (by kernel_rfl) (e:=Extern.BytealgIndexByte.indexByte) (by kernel_rfl) ?_
 intro M w cs hM hus;obtain⟨cl⟩:=cs;simp only[af]at hus;obtain⟨_,_,rfl,⟨bs,rfl,rfl,_⟩,_,_,rfl,⟨rfl,_⟩,rfl⟩:=hus;refine⟨_,Lib.run_indexByteString bs (c.toNat:Int) w,?_⟩;have hc:((c.toNat:Int)).toNat.toUInt8=c:=by simp
 rw[hc];simp only[rep];have h1:=Lib.indexByte_ge bs.data.toList c;have h2:=eZ c bs.data.toList;refine⟨trivial,?_,?_⟩
 ·simp;omega
 ·simp;omega
def cutB(s:Str)(c:UInt8):Str×Str×Bool:=if 0<=Lib.indexByte s c then(s.take (Lib.indexByte s c).toNat,s.drop ((Lib.indexByte s c).toNat+1),ť)else(s,[],ğ)
structure Node where
 kind:Int
 name:Str
 attrs:List Attr
 text:Str
 kids:List Node
mutual
def Node.v:Node->V
 |⟨k,n,a,t,ks⟩=>.strct [.int .i64 k,.str n,.seq 2 (a.map Attr.v),.str t,.seq 5 (Node.vs ks)]
def Node.vs:List Node->List V
 |[]=>[]
 |n::l=>n.v::Node.vs l
end
theorem Node.vs_map:∀l:List Node,Node.vs l=l.map Node.v
 |[]=>by simp[Node.vs]
 |n::l=>by simp[Node.vs,Node.vs_map l]
theorem Node.v_eq(n:Node):n.v=.strct [.int .i64 n.kind,.str n.name,.seq 2 (n.attrs.map Attr.v),.str n.text,.seq 5 (n.kids.map Node.v)]:=by
 cases n;simp[Node.v,Node.vs_map]
attribute [simp] Node.v_eq
section
variable {p:List Node->Prop}(h0:p [])(h1:∀n l,p n.kids->p l->p (n::l))
include h0 h1
end
def mW(p:Policy)(par:Str):List Str:=if par=[]then p.top else((aJ p.elements par).getD .zero).kids
def fits(pat nm:Str):Bool:=plain (cZ pat).1&&(if(cZ pat).2 then dH nm (cZ pat).1 else decide (nm=(cZ pat).1))
def dK:List Rule->Str->Option Rule
 |[],_=>none
 |r::l,s=>if fits r.name s then ś r else dK l s
def Rule.zero:Rule:=⟨[],⟨0,[],[]⟩,ğ⟩
theorem rX:∀{l:List Rule}{s:Str}{r:Rule},dK l s=ś r->r∈l/\fits r.name s=ť
 |[],s,r,h=>by simp[dK]at h
 |x::l,s,r,h=>by
   simp only[dK]at h;split at h
   ·cases h;exact⟨by simp,by assumption⟩
   ·obtain⟨h1,h2⟩:=rX h;exact⟨by simp[h1],h2⟩
theorem k8:∀{l:List Allowed}{s:Str}{r:Allowed},aJ l s=ś r->r∈l/\r.name=s
 |[],s,r,h=>by simp[aJ]at h
 |x::l,s,r,h=>by
   simp only[aJ]at h;split at h
   ·cases h;exact⟨by simp,by assumption⟩
   ·obtain⟨h1,h2⟩:=k8 h;exact⟨by simp[h1],h2⟩
def bV(b:UInt8):V:=.int .u8 b.toNat
theorem Z1(s:Str):lg s=s.map bV:=QI s
theorem abg(b):bV b=.int .u8 b.toNat:=rfl
attribute [simp] Z1 abg
def follows(b:UInt8):Bool:=decide (128<=b.toNat)&&decide (b.toNat<192)
def hdr(c:Nat):Nat×Nat×Nat:=
 if 192<=c/\c<224 then(2,c-192,128)else if 224<=c/\c<240 then(3,c-224,2048)else if 240<=c/\c<248 then(4,c-240,65536)else(0,0,0)
def goV:Str->Nat->Option Nat
 |[],v=>ś v
 |b::l,v=>if follows b then goV l (64*v+b.toNat-128)else none
def Cf(n least:Nat):Option Nat->Nat×Nat
 |none=>(65533,1)
 |some v=>if v<least\/1114111<v\/(55296<=v/\v<=57343)then(65533,1)else(v,n)
def one:Str->Nat×Nat
 |[]=>(65533,1)
 |b::t=>if b.toNat<128 then(b.toNat,1)
   else if(hdr b.toNat).1=0\/t.length+1<(hdr b.toNat).1 then(65533,1)
   else Cf (hdr b.toNat).1 (hdr b.toNat).2.2 (goV (t.take ((hdr b.toNat).1-1)) (hdr b.toNat).2.1)
def jv:Nat->Str->List Nat
 |0,_=>[]
 |_,[]=>[]
 |f+1,b::t=>(one (b::t)).1::jv f ((b::t).drop (one (b::t)).2)
def eN(s:Str):List Nat:=jv s.length s
def rV(r:Nat):V:=.int .i32 r
theorem rV_eq(r):rV r=.int .i32 r:=rfl
attribute [simp] rV_eq
def b8(n:Nat):UInt8:=UInt8.ofNat n
def eH(r:Nat):Str:=
 let v:=if 1114111<r\/(55296<=r/\r<=57343)then 65533 else r
 if v<128 then[b8 v]
 else if v<2048 then[b8 (192+v/64),b8 (128+v%64)]
 else if v<65536 then[b8 (224+v/4096),b8 (128+v/64%64),b8 (128+v%64)]
 else[b8 (240+v/262144),b8 (128+v/4096%64),b8 (128+v/64%64),b8 (128+v%64)]
def jr(l:List Nat):Str:=(l.map eH).flatten
theorem Ch:∀s:Str,ez (s.map bV)=ś s
 |[]=>rfl
 |b::s=>by
   have:=Ch s;simp only[zAj,abg,ez,this,Option.map_some,zDh,zDi,and_true];simp
attribute [simp] Ch
def nJ:Option Nat->List Nat->List Nat
 |_,[]=>[]
 |p,r::l=>(if r=10/\p=ś 13 then[]else[if r=13 then 10 else if r=0 then 65533 else r])++nJ (ś r) l
def eS(s:Str):Str:=jr (nJ none (eN s))
end Go.Abs.F
end
section
set_option maxHeartbeats 4000000
set_option maxRecDepth 100000
namespace Go.Abs.F
open Go.Proofs
attribute [-simp] getElem?_pos zCi List.map_map
def bB(w:Str):Str->Bool
 |[]=>dH [] w
 |b::t=>dH (b::t) w||bB w t
def wS(b:UInt8):UInt8:=if 65<=b.toNat/\b.toNat<=90 then b8 (b.toNat+32)else b
def agy(b:UInt8):Bool:=decide (b.toNat=9)||(decide (b.toNat=10)||(decide (b.toNat=12)||decide (b.toNat=32)))
def ZO(b:UInt8):Bool:=agy b||(decide (b.toNat=47)||decide (b.toNat=62))
def aa8(nm:Str)(s:Str):Bool:=decide ((s.take (2+nm.length)).map wS=[60,47]++nm)&&(match s[2+nm.length]? with
 |some c=>ZO c
 |none=>ğ)
def Bv(nm:Str):Nat->Str->Int
 |_,[]=>-1
 |i,b::t=>if aa8 nm (b::t)then i else Bv nm (i+1) t
def ends(s nm:Str):Int:=Bv nm 0 s
def right(s:Str):Bool:=decide (eS s=s)
theorem GB(s:Str):Fn ŷ Vt [.str s] (.bool (named s)):=by
 refine yoB V5 λho=>?_;simp only[oks,ok,and_true]at ho;simp;generalize hr:named s=r;refine ah (λk:Nat=>⟨[(0,.str s),(7,.int .i64 s.length),(8,.int .i64 k)],[]⟩) (λk=>k<=s.length/\(if k=0 then named s else(s.drop k).all fE)=r) (λk=>s.length-k) [] _ 0 rfl (by simp) (by simp[hr]) ?_
 rintro k ⟨hk,hi⟩ N hN;by_cases hk0:k=0
 ·subst hk0
  simp only[if_true]at hi;cases s with
  |nil=>simp[named]at hi;subst hi;simp
  |cons b t=>
    have hb:=b.toNat_lt;simp only[named,zBe]at hi;replace hi:=hid hi;simp
    repeat' (first|(refine BrKd.mk (λh=>?_) (λh=>?_)<;>simp[*])|(refine BrK.mk (λh=>?_) (λh=>?_)<;>simp(disch:=omega) [*]))
    all_goals first
     |(refine hN.out _<|Nx.mk 1 (by simp) ⟨by simp,?_⟩ (by simp);have hi:=hi.out;simpa(disch:=omega) [fE,small,decide_eq_true,decide_eq_false, *]using hi)
     |(have hi:=hi.out;simpa(disch:=omega) [fE,small,decide_eq_true,decide_eq_false, *]using hi)
     |omega
 ·simp only[if_neg hk0]at hi
  rcases place s k hk with⟨he,hd⟩|⟨hlt,x,hx,hd⟩<;>rw[hd]at hi<;>replace hi:=hid hi
  ·simp[he]
   have hi:=hi.out;have:s≠[]:=by intro h;subst h;simp at he;omega
   simpa[this]using hi
  ·have hb:=x.toNat_lt
   simp only[zBe]at hi;simp(disch:=omega) [hx]
   repeat' (first|(refine BrKd.mk (λh=>?_) (λh=>?_)<;>simp(disch:=omega) [*])|(refine BrK.mk (λh=>?_) (λh=>?_)<;>simp(disch:=omega) [*]))
   all_goals first
    |omega
    |(refine hN.out _<|Nx.mk (k+1) (by simp) ⟨by omega,?_⟩ (by omega);have hi:=hi.out;rw[if_neg (by omega)];simpa(disch:=omega) [fE,small,decide_eq_true,decide_eq_false, *]using hi)
    |(have hi:=hi.out;simpa(disch:=omega) [fE,small,decide_eq_true,decide_eq_false, *]using hi)
theorem La(s:Str):Fn ŷ Jy [.str s] (.bool (plain s)):=by
 refine yoB J6 λho=>?_;simp only[oks,ok,and_true]at ho;simp[plain]
 repeat' (first|(refine BrKd.mk (λh=>?_) (λh=>?_)<;>simp[*])|(refine BrK.mk (λh=>?_) (λh=>?_)<;>simp(disch:=omega) [*])|(refine aa (GB _) rfl (λ_=>?_)<;>simp)|(refine aw (GB _) rfl ?_<;>simp(disch:=omega) [*]))
 all_goals simp[*]
theorem d8(p:Policy)(s:Str):Fn ŷ MF [p.v,.str s] (.tup [((aJ p.elements s).getD .zero).v,.bool (aJ p.elements s).isSome]):=by
 refine yoB Ns λho=>?_;simp only[oks,ok,and_true]at ho;have hlen:p.elements.length<=140737488355328:=by have:=ho.1;simp at this;exact this.2.1.1
 clear ho;simp;generalize hr:aJ p.elements s=r;refine ah (λk:Nat=>⟨[(1,.str s),(4,.ptr 0 0),(9,.seq 3 (p.elements.map Allowed.v)),(10,.int .i64 p.elements.length),(11,.int .i64 k)],[ś (.box [.str [],.nil 1,.nil 5])]⟩) (λk=>k<=p.elements.length/\aJ (p.elements.drop k) s=r) (λk=>p.elements.length-k) [] _ 0 rfl (by simp) (by simp[*]) ?_
 rintro k ⟨hk,hi⟩ N hN;rcases place p.elements k hk with⟨he,hd⟩|⟨hlt,x,hx,hd⟩<;>rw[hd]at hi<;>replace hi:=hid hi
 ·simp[he]
  simp[<-hi.out,aJ,Allowed.zero]
 ·simp(disch:=omega) [hx]
  repeat' (first|(refine BrKd.mk (λh=>?_) (λh=>?_)<;>simp(disch:=omega) [*])|(refine BrK.mk (λh=>?_) (λh=>?_)<;>simp(disch:=omega) [*]))
  all_goals first
   |(refine hN.out _<|Nx.mk (k+1) (by simp) ⟨by omega,?_⟩ (by omega);simpa(disch:=omega) [*,decide_eq_true,decide_eq_false,aJ]using hi.out)
   |(have hi:=hi.out;simp[aJ, *]at hi;subst hi;simp[*])
end Go.Abs.F
end
