/- What the first functions of the document's packages answer. No condition. -/
import Derived.Test.YtloaikaippankaaGreatDoorQCodeA
import Derived.Lib.Bytealg
import Derived.Test.YtloaikaippankaaGreatDoorQCodeW
set_option linter.all false open List renaming reduceReplicate→zAa,mem_of_getElem?→zAb,take→zAc,length_cons→zAd,length_take→zAe,getElem?_take→zAf,eq_nil_of_length_eq_zero→zAg,mem_cons→zAh,take_of_length_le→zAi,map_cons→zAj,length_append→zBa,filter_cons→zBb,mem_append→zBc,flatMap_cons→zBd,all_cons→zBe,length_nil→zBf,mem_map_of_mem→zBh,getElem?_map→zBj,mem_or_eq_of_mem_set→zCa,mem_filter→zCb,sum_cons→zCc,length_pos_iff→zCd,mem_singleton→zCf,mem_map→zCg,set_cons_succ→zCh,flatten_cons→zCj,mem_flatMap→zDb,any_cons→zDe,map_set→zDg
open Nat renaming eq_zero_or_pos→zBg,le_refl→zBi,mul_le_mul_left→zCe,mod_lt→zDc,add_zero→zDf
open Option renaming not_isSome→zCi
open Bool renaming not_eq_true→zDa,false_and→zDd
open Option.some renaming injEq→zDh
open List.cons renaming injEq→zDi open Option renaming some→ś open Bool renaming true→ť,false→ğ open Go.Proofs.Tryz renaming prog→ŷ
section
set_option maxHeartbeats 4000000
set_option maxRecDepth 100000
namespace Go.Abs.F
open Go.Proofs
attribute [-simp] getElem?_pos
theorem mixed:ŷ.follows .mixedOrders=true:=by kernel_rfl
abbrev Str:=List UInt8
def small(b:UInt8):Bool:=97<=b.toNat&&b.toNat<=122
theorem qZ(b):Fn ŷ Mv [.int .u8 b.toNat] (.bool (small b)):=by
 refine yoB Nj λho=>?_;simp only[oks,ok,and_true]at ho;simp[small]
 repeat' (first|(refine BrKd.mk (λh=>?_) (λh=>?_)<;>simp[*])|(refine BrK.mk (λh=>?_) (λh=>?_)<;>simp(disch:=omega) [*]))
def fE(b:UInt8):Bool:=small b||(48<=b.toNat&&b.toNat<=57)||decide (b.toNat=45)
def named:Str->Bool
 |[]=>ğ
 |b::s=>small b&&(b::s).all fE
theorem lF(s:Str):Fn ŷ My [.str s] (.bool (named s)):=by
 refine yoB Nl λho=>?_;simp only[oks,ok,and_true]at ho;cases s with
 |nil=>simp[named]
 |cons b t=>
   simp(disch:=omega);refine aa (qZ b) rfl λ_=>?_;simp;generalize hr:named (b::t)=r;generalize hs:b::t=s at *;refine ah (λk:Nat=>⟨[(0,.str s),(3,.bool (small b)),(4,.int .i64 k)],[]⟩) (λk=>k<=s.length/\(small b&&(s.drop k).all fE)=r) (λk=>s.length-k) [] _ 0 rfl (by simp) (by simp[<-hr,<-hs,named]) ?_
   rintro k ⟨hk,hi⟩ N hN;rcases place s k hk with⟨he,hd⟩|⟨hlt,x,hx,hd⟩<;>rw[hd]at hi<;>replace hi:=hid hi
   ·simp[he]
    simpa using hi.out
   ·simp(disch:=omega) [hx]
    repeat' (first|(refine BrKd.mk (λh=>?_) (λh=>?_)<;>simp(disch:=omega) [*])|(refine BrK.mk (λh=>?_) (λh=>?_)<;>simp(disch:=omega) [*])|(refine aa (qZ _) rfl (λ_=>?_)<;>simp)|(refine aw (qZ _) rfl ?_<;>simp(disch:=omega) [*]))
    all_goals first
     |(refine hN.out _<|Nx.mk (k+1) (by simp) ⟨by omega,?_⟩ (by omega);simpa(disch:=omega) [*,decide_eq_true,decide_eq_false,fE]using hi.out)
     |(first|simpa(disch:=omega) [*,decide_eq_true,decide_eq_false,fE]using hi.out.symm|simpa(disch:=omega) [*,decide_eq_true,decide_eq_false,fE]using hi.out)
def plain(s:Str):Bool:=named s&&s.length<=16
theorem lD(s:Str):Fn ŷ Mj [.str s] (.bool (plain s)):=by
 refine yoB M8 λho=>?_;simp only[oks,ok,and_true]at ho;simp[plain]
 repeat' (first|(refine BrKd.mk (λh=>?_) (λh=>?_)<;>simp(disch:=omega) [*])|(refine BrK.mk (λh=>?_) (λh=>?_)<;>simp[*])|(refine aa (lF _) rfl (λ_=>?_)<;>simp)|(refine aw (lF _) rfl ?_<;>simp(disch:=omega) [*]))
structure Attr where
 name:Str
 value:Str
structure Constraint where
 kind:Int
 words:List Str
 regex:Str
structure Rule where
 name:Str
 value:Constraint
 req:Bool
structure Allowed where
 name:Str
 kids:List Str
 rules:List Rule
structure Policy where
 top:List Str
 elements:List Allowed
 unwrap:List Str
@[simp] def Attr.v (a:Attr):V:=.strct [.str a.name,.str a.value]
def Constraint.c(c:Constraint):List V:=[.int .i64 c.kind,.seq 1 (c.words.map .str),.str c.regex]
@[simp] def Constraint.v (c:Constraint):V:=.strct c.c
@[simp] def Rule.v (r:Rule):V:=.strct [.str r.name,.int .i64 r.value.kind,.seq 1 (r.value.words.map .str),.str r.value.regex,.bool r.req]
@[simp] def Allowed.v (a:Allowed):V:=.strct [.str a.name,.seq 1 (a.kids.map .str),.seq 5 (a.rules.map Rule.v)]
@[simp] def Policy.v (p:Policy):V:=.strct [.seq 1 (p.top.map .str),.seq 3 (p.elements.map Allowed.v),.seq 1 (p.unwrap.map .str)]
attribute [simp] Constraint.c
def aJ:List Allowed->Str->Option Allowed
 |[],_=>none
 |e::l,s=>if e.name=s then ś e else aJ l s
def Allowed.zero:Allowed:=⟨[],[],[]⟩
theorem gQ(p:Policy)(s:Str):Fn ŷ Ry [p.v,.str s] (.tup [((aJ p.elements s).getD .zero).v,.bool (aJ p.elements s).isSome]):=by
 refine yoB Sq λho=>?_;simp only[oks,ok,and_true]at ho;simp;generalize hr:aJ p.elements s=r;refine ah (λk:Nat=>⟨[(1,.str s),(2,.ptr 0 0),(4,.ptr 1 0),(6,.int .i64 k)],[ś (.box [.seq 1 (p.top.map .str),.seq 3 (p.elements.map Allowed.v),.seq 1 (p.unwrap.map .str)]),ś (.box [.str [],.nil 1,.nil 5])]⟩) (λk=>k<=p.elements.length/\aJ (p.elements.drop k) s=r) (λk=>p.elements.length-k) [] _ 0 rfl (by simp) (by simp[*]) ?_
 rintro k ⟨hk,hi⟩ N hN;rcases place p.elements k hk with⟨he,hd⟩|⟨hlt,x,hx,hd⟩<;>rw[hd]at hi<;>replace hi:=hid hi
 ·simp[he]
  simp[<-hi.out,aJ,Allowed.zero]
 ·have hlen:p.elements.length<=140737488355328:=by have:=ho.1;simp at this;exact this.2.1.1
  simp(disch:=omega) [hx]
  repeat' (first|(refine BrKd.mk (λh=>?_) (λh=>?_)<;>simp(disch:=omega) [*])|(refine BrK.mk (λh=>?_) (λh=>?_)<;>simp(disch:=omega) [*]))
  all_goals first
   |(refine hN.out _<|Nx.mk (k+1) (by simp) ⟨by omega,?_⟩ (by omega);simpa(disch:=omega) [*,decide_eq_true,decide_eq_false,aJ]using hi.out)
   |(have hi:=hi.out;simp[aJ, *]at hi;subst hi;simp[*])
def cZ(s:Str):Str×Bool:=match s[s.length-1]? with
 |some x=>if x.toNat=42 then(s.take (s.length-1),ť)else(s,ğ)
 |none=>(s,ğ)
theorem C7(s:Str):Fn ŷ Rp [.str s] (.tup [.str (cZ s).1,.bool (cZ s).2]):=by
 refine yoB Sj λho=>?_;simp only[oks,ok,and_true]at ho;by_cases hp:0<s.length
 ·obtain⟨x,hx⟩:=av (l:=s) (k:=s.length-1) (by omega)
  simp(disch:=omega);simp[hx]
  repeat' (first|(refine BrKd.mk (λh=>?_) (λh=>?_)<;>simp(disch:=omega))|(refine BrK.mk (λh=>?_) (λh=>?_)<;>simp(disch:=omega) [*]))
  all_goals first|omega|simp[cZ, *]
 ·have:s=[]:=by cases s;rfl;simp at hp
  subst this;simp[cZ]
def hasS:List Str->Str->Bool
 |[],_=>ğ
 |x::l,s=>if x=s then ť else hasS l s
theorem mf(l)(s:Str):Fn ŷ Vm [.seq 1 (l.map .str),.str s] (.bool (hasS l s)):=by
 refine yoB VR λho=>?_;simp only[oks,ok,and_true]at ho;simp;generalize hr:hasS l s=r;refine ah (λk:Nat=>⟨[(0,.seq 1 (l.map .str)),(1,.str s),(5,.int .i64 k)],[]⟩) (λk=>k<=l.length/\hasS (l.drop k) s=r) (λk=>l.length-k) [] _ 0 rfl (by simp) (by simp[*]) ?_
 rintro k ⟨hk,hi⟩ N hN;rcases place l k hk with⟨he,hd⟩|⟨hlt,x,hx,hd⟩<;>rw[hd]at hi<;>replace hi:=hid hi
 ·simp[he]
  simpa[hasS]using hi.out
 ·have hlen:l.length<=140737488355328:=by have:=ho.1.1;simpa using this
  simp(disch:=omega) [hx]
  repeat' (first|(refine BrKd.mk (λh=>?_) (λh=>?_)<;>simp(disch:=omega))|(refine BrK.mk (λh=>?_) (λh=>?_)<;>simp(disch:=omega) [*]))
  all_goals first
   |(refine hN.out _<|Nx.mk (k+1) (by simp) ⟨by omega,?_⟩ (by omega);simpa(disch:=omega) [*,decide_eq_true,decide_eq_false,hasS]using hi.out)
   |(first|simpa(disch:=omega) [*,decide_eq_true,decide_eq_false,hasS]using hi.out.symm|simpa(disch:=omega) [*,decide_eq_true,decide_eq_false,hasS]using hi.out)
def sign(b:UInt8):Bool:=32<=b.toNat&&b.toNat<=126
theorem qW(s:Str):Fn ŷ Ml [.str s] (.bool (s.all sign)):=by
 refine yoB Na λho=>?_;simp only[oks,ok,and_true]at ho;simp;generalize hr:s.all sign=r;refine ah (λk:Nat=>⟨[(0,.str s),(3,.int .i64 k)],[]⟩) (λk=>k<=s.length/\(s.drop k).all sign=r) (λk=>s.length-k) [] _ 0 rfl (by simp) (by simp[*]) ?_
 rintro k ⟨hk,hi⟩ N hN;rcases place s k hk with⟨he,hd⟩|⟨hlt,x,hx,hd⟩<;>rw[hd]at hi<;>replace hi:=hid hi
 ·simp[he]
  simpa using hi.out
 ·simp(disch:=omega) [hx]
  repeat' (first|(refine BrKd.mk (λh=>?_) (λh=>?_)<;>simp(disch:=omega) [*])|(refine BrK.mk (λh=>?_) (λh=>?_)<;>simp(disch:=omega) [*]))
  all_goals first
   |(refine hN.out _<|Nx.mk (k+1) (by simp) ⟨by omega,?_⟩ (by omega);simpa(disch:=omega) [*,decide_eq_true,decide_eq_false,sign]using hi.out)
   |(first|simpa(disch:=omega) [*,decide_eq_true,decide_eq_false,sign]using hi.out.symm|simpa(disch:=omega) [*,decide_eq_true,decide_eq_false,sign]using hi.out)
def scheme(s:Str):Bool:=s.all small&&(1<=s.length&&s.length<=16)
theorem w5(s:Str):Fn ŷ Ju [.str s] (.bool (scheme s)):=by
 refine yoB JZ λho=>?_;simp only[oks,ok,and_true]at ho;simp;generalize hr:scheme s=r;refine ah (λk:Nat=>⟨[(0,.str s),(3,.int .i64 k)],[]⟩) (λk=>k<=s.length/\((s.drop k).all small&&(1<=s.length&&s.length<=16))=r) (λk=>s.length-k) [] _ 0 rfl (by simp) (by simp[<-hr,scheme]) ?_
 rintro k ⟨hk,hi⟩ N hN;rcases place s k hk with⟨he,hd⟩|⟨hlt,x,hx,hd⟩<;>rw[hd]at hi<;>replace hi:=hid hi
 ·simp[he]
  repeat' (first|(refine BrKd.mk (λh=>?_) (λh=>?_)<;>simp[*])|(refine BrK.mk (λh=>?_) (λh=>?_)<;>simp(disch:=omega) [*]))
  all_goals (first|simpa(disch:=omega) [*,decide_eq_true,decide_eq_false,]using hi.out.symm|simpa(disch:=omega) [*,decide_eq_true,decide_eq_false,]using hi.out)
 ·simp(disch:=omega) [hx]
  repeat' (first|(refine BrKd.mk (λh=>?_) (λh=>?_)<;>simp(disch:=omega) [*])|(refine BrK.mk (λh=>?_) (λh=>?_)<;>simp(disch:=omega) [*]))
  all_goals first
   |(refine hN.out _<|Nx.mk (k+1) (by simp) ⟨by omega,?_⟩ (by omega);simpa(disch:=omega) [*,decide_eq_true,decide_eq_false,small]using hi.out)
   |(first|simpa(disch:=omega) [*,decide_eq_true,decide_eq_false,small]using hi.out.symm|simpa(disch:=omega) [*,decide_eq_true,decide_eq_false,small]using hi.out)
theorem bk{α:Type}{l:List α}{k x}(h:l[k]?=ś x):l.take (k+1)=l.take k++[x]:=by rw[List.take_add_one,h];rfl
theorem take_drop{α:Type}{l:List α}{k j x}(h:l[j]?=ś x)(hj:j<k):(l.take k).drop j=x::(l.take k).drop (j+1):=
 r5 (by rw[zAf,if_pos hj,h])
def wordOK(sch:Bool)(x:Str):Bool:=if sch then scheme x else(x.all sign&&decide (x.length<=40))
def wordsGo(sch:Bool):List Str->List Str->Bool
 |_,[]=>ť
 |pre,x::l=>wordOK sch x&&(!(hasS pre x)&&wordsGo sch (pre++[x]) l)
def words(l:List Str)(sch:Bool):Bool:=wordsGo sch [] l&&decide (l.length<=8)
theorem OJ (l) (sch):Fn ŷ Mk [.seq 1 (l.map .str),.bool sch] (.bool (words l sch)):=by
 refine yoB M9 λho=>?_
 simp only [oks,ok,and_true] at ho
 have hlen:l.length≤140737488355328:=by have:=ho.1; simpa using this
 simp (disch:=omega) [-zAa]
 generalize hr:words l sch=r
 refine ah (λk:Nat=>⟨[(0,.seq 1 (l.map .str)),(1,.bool sch),(5,.int .i64 k)],[]⟩) (λk=>k≤l.length∧(wordsGo sch (l.take k) (l.drop k) && decide (l.length≤8))=r) (λk=>l.length - k) [] _ 0 rfl (by simp [*]) (by simp [*,←hr,words]) ?_
 rintro k ⟨hk,hi⟩ N hN
 rcases place l k hk with ⟨he,hd⟩ | ⟨hlt,x,hx,hd⟩<;>rw [hd] at hi<;>replace hi:=hid hi
 · simp (disch:=omega) [-zAa,he]
   simpa [wordsGo] using hi.out
 · rcases Bool.eq_false_or_eq_true sch with hsch | hsch
   all_goals
    simp (disch:=omega) [-zAa,hx]
    repeat' (first | (refine BrKd.mk (λh=>?_) (λh=>?_)<;>simp (disch:=omega) [*]) | (refine BrK.mk (λh=>?_) (λh=>?_)<;>simp (disch:=omega) [*]) | (refine aa (w5 _) rfl (λ_=>?_)<;>simp (disch:=omega) [*]) | (refine aw (w5 _) rfl ?_<;>simp (disch:=omega) [*]) | (refine aa (qW _) rfl (λ_=>?_)<;>simp (disch:=omega) [*]) | (refine aw (qW _) rfl ?_<;>simp (disch:=omega) [*]))
    all_goals first
     | (first | simpa (disch:=omega) [*,decide_eq_true,decide_eq_false,wordOK,wordsGo] using hi.out.symm | simpa (disch:=omega) [*,decide_eq_true,decide_eq_false,wordOK,wordsGo] using hi.out)
     | (have hi:=hi.out; simp (disch:=omega) [wordOK,wordsGo, *,decide_eq_true,decide_eq_false] at hi; replace hi:=hid hi
        refine ah (λj:Nat=>⟨[(0,.seq 1 (l.map .str)),(1,.bool sch),(5,.int .i64 k),(8,.int .i64 j)],[]⟩) (λj=>j≤k∧hasS (l.take k) x=hasS ((l.take k).drop j) x) (λj=>k - j) [] _ 0 rfl (by simp [*]) (by simp) ?_
        rintro j ⟨hj,hi2⟩ N2 hN2
        by_cases hlt2:j < k
        · obtain ⟨y,hy⟩:=av (l:=l) (k:=j) (by omega)
          rw [take_drop hy hlt2,hasS] at hi2; replace hi2:=hid hi2
          simp (disch:=omega) [*]
          repeat' (first | (refine BrKd.mk (λh=>?_) (λh=>?_)<;>simp (disch:=omega) [*]) | (refine BrK.mk (λh=>?_) (λh=>?_)<;>simp (disch:=omega) [*]))
          all_goals first
           | (refine hN2.out _<|Nx.mk (j + 1) (by simp [*]) ⟨by omega,?_⟩ (by omega); rw [hi2.out,if_neg h])
           | (have hi2:=hi2.out; rw [if_pos h] at hi2; have hi:=hi.out; simp [hi2] at hi; simp [hi])
        · have:(l.take k).drop j=[]:=by simp; omega
          rw [this,hasS] at hi2
          have hi:=hi.out; simp [hi2] at hi; replace hi:=hid hi
          simp (disch:=omega) [*]
          refine hN.out _<|Nx.mk (k + 1) (by simp [*]) ⟨by omega,?_⟩ (by omega)
          rw [bk hx]; simpa [*] using hi.out)
def sumB:Str->Nat
 |[]=>0
 |b::s=>b.toNat+sumB s
def pool12:List Str:=[[97,42],[40,97,124,98,41,43],[91,48,45,57,93,43],[120,46,121],[91,94,97,93,42],[],[97,124,98,98,124,99]]
def pickW(sch:Bool):List Str->List Str->List Str
 |out,[]=>out
 |out,w::l=>pickW sch (if words (out++[w]) sch then out++[w]else out) l
def kind12(k:Int):Int:=1+(if k<0 then -(k+1)else k)%4
def good12(c:Constraint):Constraint:=
 let k:=kind12 c.kind
 if k=4 then⟨4,[],(pool12[sumB c.regex%7]?).getD []⟩
 else
  let ws:=if k=1 then[]else pickW (decide (k=3)) [] (c.words.take 4)
  ⟨k,if k=2/\ws=[]then[[120]]else ws,[]⟩
theorem kind12_range(k):1<=kind12 k/\kind12 k<=4:=by
 unfold kind12;have h:0<=(if k<0 then -(k+1)else k):=by split<;>omega
 generalize(if k<0 then -(k+1)else k)=m at h
 omega
theorem pickW_len(sch):∀(l out:List Str),(pickW sch out l).length<=out.length+l.length
 |[],out=>by simp[pickW]
 |w::l,out=>by
   simp only[pickW];split
   ·have:=pickW_len sch l (out++[w]);simp at this⊢;omega
   ·have:=pickW_len sch l out;simp at this⊢;omega
theorem TR(c)(hR:c.regex.length<=1125899906842624):Fn ŷ Rz [c.v] (good12 c).v:=by
 refine yoB Sr λho=>?_;simp only[oks,and_true]at ho;obtain⟨kd,ws,rx⟩:=c;simp at ho hR;generalize hg:good12 ⟨kd,ws,rx⟩=g;have hrg:=kind12_range kd;have hgd:g=good12 ⟨kd,ws,rx⟩:=hg.symm;simp only[good12]at hgd;simp;refine BrKd.mk (λh=>?_) (λh=>?_)
 all_goals
  first
   |(have e:1+ -(kd+1)%4=kind12 kd:=by rw[kind12,if_pos h])
   |(have e:1+kd%4=kind12 kd:=by rw[kind12,if_neg h])
  simp(disch:=omega);rw[e];clear e;generalize kind12 kd=q at *;refine BrKd.mk (λhq=>?_) (λhq=>?_)
  ·simp
   refine ah (λ(p:Nat×Nat)=>⟨[(1,.ptr 0 0),(2,.ptr 1 0),(4,.ptr 2 0),(5,.seq 1 (pool12.map .str)),(6,.int .i64 p.2),(7,.int .i64 p.1)],
    [ś (.box [.int .i64 kd,.seq 1 (ws.map .str),.str rx]),ś (.box [.int .i64 0,.nil 1,.str []]),ś (.box [.int .i64 q,.nil 1,.str []])]⟩)
    (λp=>p.1<=rx.length/\p.2<=255*p.1/\p.2+sumB (rx.drop p.1)=sumB rx) (λp=>rx.length-p.1) [] _ (0,0) rfl (by simp[pool12]) (by simp) ?_
   rintro⟨k,n⟩ ⟨hk,hn,hi⟩ N hN;simp only at hk hn hi;rcases place rx k hk with⟨he,hd⟩|⟨hlt,x,hx,hd⟩<;>rw[hd,sumB]at hi
   ·have hm:n%7<7:=zDc _ (by decide)
    have ht:((n:Int)%7).toNat=n%7:=by omega
    obtain⟨y,hy⟩:=av (l:=pool12) (k:=n%7) hm;have hpl:pool12.length=7:=rfl;subst hq;rw[if_pos rfl]at hgd;simp only[zDf]at hi;simp(disch:=omega) [hpl,ht,hy];rw[hi]at hy;simp[hgd,hy]
   ·have hx8:=x.toNat_lt
    simp(disch:=omega) [hx];refine hN.out _<|Nx.mk (k+1,n+x.toNat) (by simp) ⟨by simp only;omega,by simp only;omega,by simp only;omega⟩ (by simp only;omega)
  ·rw[if_neg hq]at hgd
   generalize hw:(if q=1 then[]else pickW (decide (q=3)) [] (zAc 4 ws))=w at hgd
   have hl4:(zAc 4 ws).length=min 4 ws.length:=zAe;simp
   refine ah (λ(p:Nat×List Str)=>⟨[(1,.ptr 0 0),(2,.ptr 1 0),(4,.ptr 2 0),(8,.int .i64 p.1)],
    [ś (.box [.int .i64 kd,.seq 1 (ws.map .str),.str rx]),ś (.box [.int .i64 0,.nil 1,.str []]),ś (.box [.int .i64 q,.ref 3 p.2.length,.str []]),ś (.arr aA 1 (p.2.map .str))]⟩)
    (λp=>p.1<=(zAc 4 ws).length/\p.2.length<=p.1/\(if q=1 then p.2 else pickW (decide (q=3)) p.2 ((zAc 4 ws).drop p.1))=w) (λp=>(zAc 4 ws).length-p.1) [.b 2 1 aA 1] _ (0,[]) rfl (by simp) (by simp[hw]) ?_
   rintro⟨k,out⟩ ⟨hk,hol,hi⟩ N hN;simp only at hk hol hi;by_cases hq1:q=1
   ·rw[if_pos hq1]at hi
    subst hi;simp[hq1]
    repeat' (first|(refine BrKd.mk (λh=>?_) (λh=>?_)<;>simp[*])|(refine BrK.mk (λh=>?_) (λh=>?_)<;>simp(disch:=omega) [*]))
    all_goals first|omega|simp[hgd,hq1]
   ·rw[if_neg hq1]at hi
    rcases place (zAc 4 ws) k hk with⟨he,hd⟩|⟨hlt,x,hx,hd⟩<;>rw[hd,pickW]at hi
    ·subst hi
     clear hw;simp
     repeat' (first|(refine BrKd.mk (λh=>?_) (λh=>?_)<;>simp(disch:=omega) [*])|(refine BrK.mk (λh=>?_) (λh=>?_)<;>simp(disch:=omega) [*]))
     all_goals first|omega|(cases out<;>simp_all)|simp[*]
    ·have hx2:ws[k]?=ś x:=by rw[zAf]at hx;simpa[show k<4 by omega]using hx
     replace hi:=hid hi;simp(disch:=omega) [hx2];refine aa (by simpa using OJ (out++[x]) (decide (q=3))) rfl λ_=>?_
     simp;refine BrK.mk (λhb=>?_) (λhb=>?_)
     ·simp(disch:=omega)
      refine hN.out _<|Nx.mk (k+1,out++[x]) (by simp) ⟨by simp only;omega,by simp;omega,?_⟩ (by simp only;omega)
      have hi:=hi.out;rw[if_pos hb]at hi;simpa[hq1]using hi
     ·simp(disch:=omega)
      refine hN.out _<|Nx.mk (k+1,out) (by simp) ⟨by simp only;omega,by simp only;omega,?_⟩ (by simp only;omega)
      have hi:=hi.out;rw[if_neg (by simp[hb])]at hi
      simpa[hq1]using hi
theorem aed{P d f vs us K σ r}(h:Fn P f us r)(hf:dA (jk r)=ť)(k:ok (jk r)->K (σ.put d (jk r))):ry (Cn P) d f vs us K σ:=aa (Fn.jk h) hf k
theorem afY{l sz}:dA (if l=[]then V.seq sz l else V.junk)=true:=by split<;>simp[dA, *]
theorem afX{α:Type}{f}{l:List α}{sz}:dA (if l=[]then V.seq sz (l.map f)else V.junk)=true:=by split<;>simp[dA, *]
theorem Qo:∀{l:List Str},dJ (l.map V.str)=ť
 |[]=>rfl
 |_::l=>by simp[Qo (l:=l)]
attribute [simp] afY afX Qo
def XL(s:Str):Bool:=decide (s=[98,114])||(decide (s=[104,114])||(decide (s=[105,109,103])||(decide (s=[105,110,112,117,116])||decide (s=[119,98,114]))))
theorem Db(s:Str):Fn ŷ RH [.str s] (.bool (XL s)):=by
 refine yoB SC λho=>?_;simp only[oks,ok,and_true]at ho;simp[XL]
 repeat' (first|(refine BrKd.mk (λh=>?_) (λh=>?_)<;>simp[*])|(refine BrK.mk (λh=>?_) (λh=>?_)<;>simp(disch:=omega) [*]))
def raw(s:Str):Bool:=decide (s=[115,99,114,105,112,116])||decide (s=[115,116,121,108,101])
theorem Gz(s:Str):Fn ŷ Vq [.str s] (.bool (raw s)):=by
 refine yoB VX λho=>?_;simp only[oks,ok,and_true]at ho;simp[raw]
 repeat' (first|(refine BrKd.mk (λh=>?_) (λh=>?_)<;>simp[*])|(refine BrK.mk (λh=>?_) (λh=>?_)<;>simp(disch:=omega) [*]))
def j6(o:Str):List Str:=
 if o=[112]then[[98,108,111,99,107,113,117,111,116,101],[100,105,118],[104,49],[104,50],[104,114],[108,105],[111,108],[112],[112,114,101],[116,97,98,108,101],[117,108]]
 else if o=[108,105]then[[108,105]]
 else if o=[100,116]\/o=[100,100]then[[100,100],[100,116]]
 else if o=[111,112,116,105,111,110]then[[111,112,116,105,111,110]]
 else if o=[116,100]then[[116,100],[116,114]]
 else if o=[116,114]then[[116,114]]
 else[]
def Fw(o b:Str):Bool:=hasS (j6 o) b
theorem w6(o b:Str):Fn ŷ Jx [.str o,.str b] (.bool (Fw o b)):=by
 refine yoB J4 λho=>?_;simp only[oks,ok,and_true]at ho;simp;generalize hr:Fw o b=r;have hlen:(j6 o).length<=11:=by unfold j6;repeat' (split<;>try simp)
 repeat' (first|(refine BrKd.mk (λh=>?_) (λh=>?_)<;>simp[*])|(refine BrK.mk (λh=>?_) (λh=>?_)<;>simp(disch:=omega) [*]))
 all_goals
  by_cases hc:j6 o=[]
  ·refine ah (λk:Nat=>⟨[(1,.str b),(5,.nil 1),(6,.int .i64 0)],[]⟩) (λk=>k=0) (λk=>0-k) [] _ 0 rfl (by revert hc;simp[*,j6]) rfl ?_
   rintro k rfl N hN;simp[<-hr,Fw,hc,hasS]
  refine ah (λk:Nat=>⟨[(1,.str b),(5,.seq 1 ((j6 o).map .str)),(6,.int .i64 k)],[]⟩) (λk=>k<=(j6 o).length/\hasS ((j6 o).drop k) b=r) (λk=>(j6 o).length-k) [] _ 0 rfl (by revert hc;simp[*,j6]) (by simp[<-hr,Fw]) ?_
  clear hr hc;generalize j6 o=l at *;rintro k ⟨hk,hi⟩ N hN;rcases place l k hk with⟨he,hd⟩|⟨hlt,x,hx,hd⟩<;>rw[hd]at hi<;>replace hi:=hid hi
  ·simp[he]
   simpa[hasS]using hi.out
  ·simp(disch:=omega) [hx]
   repeat' (first|(refine BrKd.mk (λh=>?_) (λh=>?_)<;>simp(disch:=omega))|(refine BrK.mk (λh=>?_) (λh=>?_)<;>simp(disch:=omega) [*]))
   all_goals first
    |(refine hN.out _<|Nx.mk (k+1) (by simp) ⟨by omega,?_⟩ (by omega);simpa(disch:=omega) [*,decide_eq_true,decide_eq_false,hasS]using hi.out)
    |(first|simpa(disch:=omega) [*,decide_eq_true,decide_eq_false,hasS]using hi.out.symm|simpa(disch:=omega) [*,decide_eq_true,decide_eq_false,hasS]using hi.out)
def PL:List Str->List Str->Bool
 |_,[]=>ť
 |pre,x::l=>!hasS pre x&&PL (pre++[x]) l
def ab6(l:List Str):Bool:=PL [] l
theorem TM(l):Fn ŷ Rq [.seq 1 (l.map .str)] (.bool (ab6 l)):=by
 refine yoB Sk λho=>?_;simp only[oks,ok,and_true]at ho;have hlen:l.length<=140737488355328:=by have:=ho.1;simpa using this
 simp;generalize hr:ab6 l=r;refine ah (λk:Nat=>⟨[(0,.seq 1 (l.map .str)),(3,.int .i64 k)],[]⟩) (λk=>k<=l.length/\PL (l.take k) (l.drop k)=r) (λk=>l.length-k) [] _ 0 rfl (by simp) (by simp[<-hr,ab6]) ?_
 rintro k ⟨hk,hi⟩ N hN;rcases place l k hk with⟨he,hd⟩|⟨hlt,x,hx,hd⟩<;>rw[hd]at hi<;>replace hi:=hid hi
 ·simp[he]
  simpa[PL]using hi.out
 ·simp(disch:=omega) [hx]
  refine aw (by simpa[List.map_take]using mf (l.take k) x) rfl ?_
  simp;refine BrK.mk (λh=>?_) (λh=>?_)
  ·simp
   have hi:=hi.out;simpa[PL,h]using hi
  ·simp(disch:=omega)
   refine hN.out _<|Nx.mk (k+1) (by simp) ⟨by omega,?_⟩ (by omega)
   have hi:=hi.out;simp[PL,h]at hi;rw[bk hx];exact hi
def ja:Str:=[35,116,101,120,116]
def dU:Str:=[35,99,111,109,109,101,110,116]
def zl(p:Policy)(par x:Str):Bool:=!(XL par||(raw par&& !decide (x=ja)))&&((decide (x=ja)||decide (x=dU))||((aJ p.elements x).isSome&& !Fw par x))
def kids(p:Policy)(par:Str)(l:List Str):Bool:=l.all (zl p par)&&ab6 l
theorem TN(p)(par:Str)(l):Fn ŷ Rr [p.v,.str par,.seq 1 (l.map .str)] (.bool (kids p par l)):=by
 refine yoB Sl λho=>?_;simp only[oks,ok,and_true]at ho;have hlen:l.length<=140737488355328:=by have:=ho.2.2.1;simpa using this
 simp;refine aa (Db _) rfl λ_=>?_;simp;refine aa (Gz _) rfl λ_=>?_;simp;generalize hr:kids p par l=r;refine ah (λk:Nat=>⟨[(1,.str par),(2,.seq 1 (l.map .str)),(3,.ptr 0 0),(7,.bool (XL par)),(8,.bool (raw par)),(9,.int .i64 k)],[ś (.box [.seq 1 (p.top.map .str),.seq 3 (p.elements.map Allowed.v),.seq 1 (p.unwrap.map .str)])]⟩) (λk=>k<=l.length/\((l.drop k).all (zl p par)&&ab6 l)=r) (λk=>l.length-k) [] _ 0 rfl (by simp) (by simp[<-hr,kids]) ?_
 rintro k ⟨hk,hi⟩ N hN;rcases place l k hk with⟨he,hd⟩|⟨hlt,x,hx,hd⟩<;>rw[hd]at hi<;>replace hi:=hid hi
 ·simp[he]
  refine aa (TM _) rfl λ_=>?_;have hi:=hi.out;simp at hi;simp[hi]
 ·simp only[zBe]at hi
  have hfin:zl p par x=ğ->r=false:=λh=>by have hi:=hi.out;rw[h]at hi;simpa using hi.symm
  have hgo:zl p par x=ť->((l.drop (k+1)).all (zl p par)&&ab6 l)=r:=λh=>by have hi:=hi.out;rw[h]at hi;simpa using hi
  replace hfin:=hid hfin;replace hgo:=hid hgo;simp(disch:=omega)
  repeat' (first
   |(refine BrKd.mk (λh=>?_) (λh=>?_)<;>simp(disch:=omega) [*])
   |(refine BrK.mk (λh=>?_) (λh=>?_)<;>simp(disch:=omega) [*])
   |(refine aw (Fn.jk (gQ p x)) (by simp) ?_<;>simp[*])
   |(refine aa (w6 par x) rfl (λ_=>?_)<;>simp))
  all_goals
   cases hf:aJ p.elements x
   all_goals
    first
    |(exfalso;simp_all;done)
    |(refine hN.out _<|Nx.mk (k+1) (by simp[*]) ⟨by omega,hgo.out ?_⟩ (by omega);simp_all[zl,ja,dU];done)
    |(rw[hfin.out ?_];simp_all[zl,ja,dU];done)
    |(refine(hfin.out ?_).symm;simp_all[zl,ja,dU];done)
    |(refine(hfin.out ?_);simp_all[zl,ja,dU];done)
def zu(p:Policy)(par:Str):List Str->List Str->List Str
 |out,[]=>out
 |out,x::l=>zu p par (if kids p par (out++[x])then out++[x]else out) l
def lA(p:Policy)(par:Str)(l:List Str):List Str:=zu p par [] (l.take 8)
theorem E3(p)(par):∀(l out:List Str),(zu p par out l).length<=out.length+l.length
 |[],out=>by simp[zu]
 |w::l,out=>by
   simp only[zu];split
   ·have:=E3 p par l (out++[w]);simp at this⊢;omega
   ·have:=E3 p par l out;simp at this⊢;omega
theorem WG(p)(par)(l):(lA p par l).length<=8:=by
 have:=E3 p par (l.take 8) [];simp at this;simp only[lA];omega
theorem uu(p)(par:Str)(l):FnN ŷ G9 [p.v,.str par,.seq 1 (l.map .str)] (.seq 1 ((lA p par l).map .str)):=by
 refine FnN.of_image mixed Ho.1 Ho.2 rfl λho=>?_;have hlen:l.length<=140737488355328:=by have:=ho.2.2.1.1;simpa using this
 simp;generalize hw:lA p par l=w;have hl8:(zAc 8 l).length=min 8 l.length:=zAe
 refine ah (λ(q:Nat×List Str)=>⟨[(1,.str par),(2,.seq 1 (l.map .str)),(3,.ptr 0 0),(7,.ref 1 q.2.length),(8,.int .i64 q.1)],
  [ś (.box [.seq 1 (p.top.map .str),.seq 3 (p.elements.map Allowed.v),.seq 1 (p.unwrap.map .str)]),ś (.arr aA 1 (q.2.map .str))]⟩)
  (λq=>q.1<=(zAc 8 l).length/\q.2.length<=q.1/\zu p par q.2 ((zAc 8 l).drop q.1)=w) (λq=>(zAc 8 l).length-q.1) [.r 7 aA 1] _ (0,[]) rfl (by simp) (by simp[<-hw,lA]) ?_
 rintro⟨k,out⟩ ⟨hk,hol,hi⟩ N hN;simp only at hk hol hi;rcases place (zAc 8 l) k hk with⟨he,hd⟩|⟨hlt,x,hx,hd⟩<;>rw[hd,zu]at hi
 ·subst hi
  simp
  repeat' (first|(refine BrKd.mk (λh=>?_) (λh=>?_)<;>simp(disch:=omega))|(refine BrK.mk (λh=>?_) (λh=>?_)<;>simp(disch:=omega) [*]))
  all_goals first|omega|simp[*]
 ·have hx2:l[k]?=ś x:=by rw[zAf]at hx;simpa[show k<8 by omega]using hx
  replace hi:=hid hi;simp(disch:=omega) [hx2];refine aa (by simpa using TN p par (out++[x])) rfl λ_=>?_
  simp;refine BrK.mk (λhb=>?_) (λhb=>?_)
  ·simp(disch:=omega)
   refine hN.out _<|Nx.mk (k+1,out++[x]) (by simp) ⟨by simp only;omega,by simp;omega,?_⟩ (by simp only;omega)
   have hi:=hi.out;rw[if_pos hb]at hi;simpa using hi
  ·simp(disch:=omega)
   refine hN.out _<|Nx.mk (k+1,out) (by simp) ⟨by simp only;omega,by simp only;omega,?_⟩ (by simp only;omega)
   have hi:=hi.out;rw[if_neg (by simp[hb])]at hi
   simpa using hi
end Go.Abs.F
end
section
set_option maxHeartbeats 4000000
set_option maxRecDepth 100000
namespace Go.Abs.F
open Go.Proofs
attribute [-simp] getElem?_pos zCi
def Cd:List Str:=[[105,100],[104,114,101,102],[100,97,116,97,45,42]]
def iu(i:Nat)(r:Rule):Rule:=
 if plain (cZ r.name).1 then⟨r.name,good12 r.value,!(cZ r.name).2&&r.req⟩
 else⟨(Cd[i]?).getD [],good12 r.value,!decide (i=2)&&r.req⟩
def gG:Nat->List Rule->List Rule->List Rule
 |_,out,[]=>out
 |i,out,r::l=>gG (i+1) (if hasS (out.map Rule.name) (iu i r).name then out else out++[iu i r]) l
def lu(l:List Rule):List Rule:=gG 0 [] (l.take 3)
theorem vD:∀(l out:List Rule)(i:Nat),(gG i out l).length<=out.length+l.length
 |[],out,i=>by simp[gG]
 |w::l,out,i=>by
   simp only[gG];split
   ·have:=vD l out (i+1);simp at this⊢;omega
   ·have:=vD l (out++[iu i w]) (i+1);simp at this⊢;omega
theorem vE(l):(lu l).length<=3:=by
 have:=vD (l.take 3) [] 0;simp at this;simp only[lu];omega
theorem OI(l)(hR:∀r∈l,r.value.regex.length<=1125899906842624):Fn ŷ Mi [.seq 5 (l.map Rule.v)] (.seq 5 ((lu l).map Rule.v)):=by
 refine yoB M7 λho=>?_;simp only[oks,ok,and_true]at ho;have hlen:l.length<=140737488355328:=by have:=ho.1;simpa using this
 clear ho;simp;generalize hw:lu l=w;have hl3:(zAc 3 l).length=min 3 l.length:=zAe
 refine ah (λ(q:Nat×List Rule)=>⟨[(0,.seq 5 (l.map Rule.v)),(3,.ref 0 q.2.length),(4,.ref 1 q.2.length),(5,.int .i64 q.1)],
  [ś (.arr fU 5 (q.2.map Rule.v)),ś (.arr aA 1 ((q.2.map Rule.name).map .str))]⟩)
  (λq=>q.1<=(zAc 3 l).length/\q.2.length<=q.1/\gG q.1 q.2 ((zAc 3 l).drop q.1)=w) (λq=>(zAc 3 l).length-q.1) [.r 3 fU 5,.r 4 aA 1] _ (0,[]) rfl (by simp) (by simp[<-hw,lu]) ?_
 rintro⟨k,out⟩ ⟨hk,hol,hi⟩ N hN;simp only at hk hol hi;rcases place (zAc 3 l) k hk with⟨he,hd⟩|⟨hlt,x,hx,hd⟩<;>rw[hd,gG]at hi
 ·subst hi
  clear hw;simp
  repeat' (first|(refine BrKd.mk (λh=>?_) (λh=>?_)<;>simp(disch:=omega))|(refine BrK.mk (λh=>?_) (λh=>?_)<;>simp(disch:=omega) [*]))
  all_goals first|omega|simp[*]
 ·have hx2:l[k]?=ś x:=by rw[zAf]at hx;simpa[show k<3 by omega]using hx
  have hRx:=hR x (zAb hx2);replace hi:=hid hi;simp(disch:=omega) [hx2];refine az (TR x.value hRx) (by simp) ?_
  simp[hx2];refine aa (C7 _) rfl λ_=>?_;simp;refine aa (lD _) rfl λ_=>?_;have hk3:k<3:=by omega
  obtain⟨pn,hpn⟩:∃pn,Cd[k]?=ś pn:=av (l:=Cd) (k:=k) (by simpa[Cd]using hk3)
  have hpn2:([.str [105,100],.str [104,114,101,102],.str [100,97,116,97,45,42]]:List V)[k]?=ś (.str pn):=by
   have:(Cd.map V.str)[k]?=ś (.str pn):=by rw[zBj,hpn];rfl
   exact this
  have fin:∀g:Rule,iu k x=g->∀τ:St,τ.nrm [0,3,4,5]=⟨[(0,.seq 5 (l.map Rule.v)),(3,.ref 0 (if hasS (out.map Rule.name) g.name then out else out++[g]).length),(4,.ref 1 (if hasS (out.map Rule.name) g.name then out else out++[g]).length),(5,.int .i64 ((k+1:Nat):Int))],
   [ś (.arr fU 5 ((if hasS (out.map Rule.name) g.name then out else out++[g]).map Rule.v)),ś (.arr aA 1 (((if hasS (out.map Rule.name) g.name then out else out++[g]).map Rule.name).map .str))]⟩->N τ:=by
   intro g hg τ hτ;have hi:=hi.out;rw[hg]at hi;refine hN.out _<|Nx.mk (k+1,if hasS (out.map Rule.name) g.name then out else out++[g]) hτ ⟨by simp only;omega,?_,hi⟩ (by simp only;omega)
   split<;>simp<;>omega
  simp;refine BrK.mk (λhb=>?_) (λhb=>?_)
  ·simp
   refine BrK.mk (λhm=>?_) (λhm=>?_)
   all_goals
    simp[hm];refine aa (by simpa using mf (out.map Rule.name) x.name) rfl λ_=>?_
    simp;refine BrK.mk (λhh=>?_) (λhh=>?_)
    all_goals
     simp(disch:=omega);refine fin _ (by simp only[iu,hb,if_true,hm,Bool.not_true,Bool.not_false,Bool.true_and,zDd];rfl) _ ?_
     simp[hh]
  ·simp[hpn2]
   have hb':iu k x=⟨pn,good12 x.value,!decide (k=2)&&x.req⟩:=by simp[iu,hb,hpn]
   refine BrKd.mk (λhm=>?_) (λhm=>?_)
   all_goals
    simp[hm];refine aa (by simpa using mf (out.map Rule.name) pn) rfl λ_=>?_
    simp;refine BrK.mk (λhh=>?_) (λhh=>?_)
    all_goals
     simp(disch:=omega);refine fin _ hb' _ ?_;simp[hh,hm]
def aaD:List Str:=[[97],[98],[112],[98,114],[115,116,121,108,101]]
def Bx(i:Nat)(s:Str):Str:=if plain s then s else(aaD[i]?).getD []
def m4:Nat->List Allowed->List Allowed->List Allowed
 |_,out,[]=>out
 |i,out,e::l=>m4 (i+1) (if(aJ out (Bx i e.name)).isSome then out else out++[⟨Bx i e.name,[],lu e.rules⟩]) l
theorem yr:∀(l out:List Allowed)(i:Nat),(m4 i out l).length<=out.length+l.length
 |[],out,i=>by simp[m4]
 |w::l,out,i=>by
   simp only[m4];split
   ·have:=yr l out (i+1);simp at this⊢;omega
   ·have:=yr l (out++[⟨Bx i w.name,[],lu w.rules⟩]) (i+1);simp at this⊢;omega
def lm(els:List Allowed)(k:Nat)(own:List Str):List Allowed:=
 match els[k]? with
 |some e=>els.set k ⟨e.name,lA ⟨[],els,[]⟩ e.name own,e.rules⟩
 |none=>els
def iO:Nat->List Allowed->List Allowed->List Allowed
 |_,els,[]=>els
 |k,els,e::l=>iO (k+1) (lm els k e.kids) l
def IJ:List Str->List Str->List Str
 |out,[]=>out
 |out,x::l=>IJ (if plain x&& !hasS out x then out++[x]else out) l
def ai(p:Policy):Policy:=
 let a:=m4 0 [] (p.elements.take 5)
 let b:=iO 0 a (p.elements.take a.length)
 ⟨lA ⟨[],b,[]⟩ [] p.top,b,IJ [] (p.unwrap.take 4)⟩
theorem j3(p)(hR:∀e∈p.elements,∀r∈e.rules,r.value.regex.length<=1125899906842624):Fn ŷ Ru [p.v] (ai p).v:=by
 refine yoB So λho=>?_;simp only[oks,and_true]at ho;have hlt:p.top.length<=140737488355328:=by have:=ho;simp at this;exact this.1.1
 have hle:p.elements.length<=140737488355328:=by have:=ho;simp at this;exact this.2.1.1
 have hlu:p.unwrap.length<=140737488355328:=by have:=ho;simp at this;exact this.2.2.1
 clear ho;simp;generalize hg:ai p=g;have hgd:g=ai p:=hg.symm;simp only[ai]at hgd;have hl5:(zAc 5 p.elements).length=min 5 p.elements.length:=zAe;have hal:=yr (p.elements.take 5) [] 0;generalize ha:m4 0 [] (p.elements.take 5)=els at hgd hal
 refine ah (λ(q:Nat×List Allowed)=>⟨[(1,.ptr 0 0),(2,.ptr 1 0),(3,.ptr 2 0),(4,.int .i64 q.1)],
  [ś (.box [.seq 1 (p.top.map .str),.seq 3 (p.elements.map Allowed.v),.seq 1 (p.unwrap.map .str)]),ś (.box [.nil 1,.nil 3,.nil 1]),ś (.box [.nil 1,.ref 3 q.2.length,.nil 1]),ś (.arr cR 3 (q.2.map Allowed.v))]⟩)
  (λq=>q.1<=(zAc 5 p.elements).length/\q.2.length<=q.1/\m4 q.1 q.2 ((zAc 5 p.elements).drop q.1)=els) (λq=>(zAc 5 p.elements).length-q.1) [.b 2 1 cR 3] _ (0,[]) rfl (by simp) (by simp[<-ha]) ?_
 rintro⟨k,out⟩ ⟨hk,hol,hi⟩ N hN;simp only at hk hol hi;rcases place (zAc 5 p.elements) k hk with⟨he,hd⟩|⟨hlt,x,hx,hd⟩<;>rw[hd,m4]at hi
 ·subst hi
  have hol5:out.length<=p.elements.length/\out.length<=5:=by simp only[zBf]at hal;omega
  have hkk:(k<p.elements.length/\k=5)\/k=p.elements.length:=by omega
  clear hd hN hol hk he hal ha;generalize hb:iO 0 out (p.elements.take out.length)=bs at hgd;rcases hkk with hkk|hkk
  all_goals
   simp(disch:=omega)
   refine ah (λ(q:Nat×List Allowed)=>⟨[(1,.ptr 0 0),(2,.ptr 1 0),(3,.ptr 2 0),(10,.int .i64 q.1)],
    [ś (.box [.seq 1 (p.top.map .str),.seq 3 (p.elements.map Allowed.v),.seq 1 (p.unwrap.map .str)]),ś (.box [.nil 1,.nil 3,.nil 1]),ś (.box [.nil 1,.ref 3 q.2.length,.nil 1]),ś (.arr cR 3 (q.2.map Allowed.v))]⟩)
    (λq=>q.1<=(p.elements.take out.length).length/\q.2.length=out.length/\iO q.1 q.2 ((p.elements.take out.length).drop q.1)=bs) (λq=>(p.elements.take out.length).length-q.1) [] _ (0,out) rfl (by simp) (by simp[<-hb]) ?_
   have hlo:(p.elements.take out.length).length=out.length:=by rw[zAe];omega
   rintro⟨k,els⟩ ⟨hk,hol,hi⟩ N hN;simp only at hk hol hi;rcases place (p.elements.take out.length) k hk with⟨he,hd⟩|⟨hlt,x,hx,hd⟩<;>rw[hd,iO]at hi
   ·subst hi
    simp(disch:=omega) [he];refine fD (by simpa using uu ⟨[],els,[]⟩ [] p.top) λhok=>?_
    simp;generalize hu:IJ [] (p.unwrap.take 4)=us at hgd;have hl4:(zAc 4 p.unwrap).length=min 4 p.unwrap.length:=zAe;clear hN
    refine ah (λ(q:Nat×List Str)=>⟨[(1,.ptr 0 0),(2,.ptr 1 0),(3,.ptr 2 0),(12,.int .i64 q.1)],
     [ś (.box [.seq 1 (p.top.map .str),.seq 3 (p.elements.map Allowed.v),.seq 1 (p.unwrap.map .str)]),ś (.box [.nil 1,.nil 3,.nil 1]),ś (.box [.seq 1 ((lA ⟨[],els,[]⟩ [] p.top).map .str),.ref 3 els.length,.ref 4 q.2.length]),ś (.arr cR 3 (els.map Allowed.v)),ś (.arr aA 1 (q.2.map .str))]⟩)
     (λq=>q.1<=(zAc 4 p.unwrap).length/\q.2.length<=q.1/\IJ q.2 ((zAc 4 p.unwrap).drop q.1)=us) (λq=>(zAc 4 p.unwrap).length-q.1) [.b 2 2 aA 1] _ (0,[]) rfl (by simp) (by simp[<-hu]) ?_
    rintro⟨j,uw⟩ ⟨hj,hul,hi⟩ N hN;simp only at hj hul hi;rcases place (zAc 4 p.unwrap) j hj with⟨he2,hd2⟩|⟨hlt2,y,hy,hd2⟩<;>rw[hd2,IJ]at hi
    ·subst hi
     have hjj:(j<p.unwrap.length/\j=4)\/j=p.unwrap.length:=by omega
     rcases hjj with hjj|hjj
     all_goals
      simp(disch:=omega);simp[hgd]
    ·have hy2:p.unwrap[j]?=ś y:=by rw[zAf]at hy;simpa[show j<4 by omega]using hy
     replace hi:=hid hi;simp(disch:=omega) [hy2];refine aa (lD _) rfl λ_=>?_;simp[hy2];refine aw (by simpa using mf uw y) rfl ?_
     simp;have yes:plain y=ť->hasS uw y=ğ->IJ (uw++[y]) ((zAc 4 p.unwrap).drop (j+1))=us:=λh h'=>by have hi:=hi.out;simpa[h,h']using hi
     have no:(plain y&& !hasS uw y)=ğ->IJ uw ((zAc 4 p.unwrap).drop (j+1))=us:=λh=>by have hi:=hi.out;rw[if_neg (by simp[h])]at hi;exact hi
     replace yes:=hid yes;replace no:=hid no;refine BrK.mk (λh1=>?_) (λh1=>?_)
     ·simp[h1]
      refine BrK.mk (λh2=>?_) (λh2=>?_)
      ·simp(disch:=omega)
       refine hN.out _<|Nx.mk (j+1,uw) (by simp) ⟨by simp only;omega,by simp only;omega,no.out (by simp[h2])⟩ (by simp only;omega)
      ·simp(disch:=omega) [hy2]
       refine hN.out _<|Nx.mk (j+1,uw++[y]) (by simp) ⟨by simp only;omega,by simp;omega,yes.out h1 h2⟩ (by simp only;omega)
     ·simp(disch:=omega) [h1]
      refine hN.out _<|Nx.mk (j+1,uw) (by simp) ⟨by simp only;omega,by simp only;omega,no.out (by simp[h1])⟩ (by simp only;omega)
   ·have hx2:p.elements[k]?=ś x:=by rw[zAf]at hx;simpa[show k<out.length by omega]using hx
    obtain⟨e,hex⟩:=av (l:=els) (k:=k) (by omega)
    replace hi:=hid hi;simp(disch:=omega) [hx2,hex];refine ol (by simpa using uu ⟨[],els,[]⟩ e.name x.kids) ?_
    simp(disch:=omega) [hex];have hi:=hi.out;have hsk:lm els k x.kids=els.set k ⟨e.name,lA ⟨[],els,[]⟩ e.name x.kids,e.rules⟩:=by simp[lm,hex]
    rw[hsk]at hi;refine hN.out _<|Nx.mk (k+1,els.set k ⟨e.name,lA ⟨[],els,[]⟩ e.name x.kids,e.rules⟩) (by simp) ⟨by simp only;omega,by simp;omega,hi⟩ (by simp only;omega)
 ·have hx2:p.elements[k]?=ś x:=by rw[zAf]at hx;simpa[show k<5 by omega]using hx
  have hRx:=hR x (zAb hx2);obtain⟨pn,hpn⟩:∃pn,aaD[k]?=ś pn:=av (l:=aaD) (k:=k) (by simp only[aaD,zAd,zBf];omega)
  have hpn2:([.str [97],.str [98],.str [112],.str [98,114],.str [115,116,121,108,101]]:List V)[k]?=ś (.str pn):=by
   have:(aaD.map V.str)[k]?=ś (.str pn):=by rw[zBj,hpn];rfl
   exact this
  replace hi:=hid hi;simp(disch:=omega) [hx2];refine aa (lD _) rfl λ_=>?_;simp;refine BrK.mk (λhb=>?_) (λhb=>?_)
  all_goals
   first
    |(have hnm:Bx k x.name=x.name:=by rw[Bx,if_pos hb])
    |(have hnm:Bx k x.name=pn:=by rw[Bx,if_neg (by simp[hb]),hpn];rfl)
   have hi:=hi.out;rw[hnm]at hi;replace hi:=hid hi;simp[hpn2];refine aed (by simpa using gQ ⟨[],out,[]⟩ _) (by simp) λ_=>?_
   simp;refine BrK.mk (λhf=>?_) (λhf=>?_)
   ·simp(disch:=omega)
    have hi:=hi.out;rw[if_pos hf]at hi;refine hN.out _<|Nx.mk (k+1,out) (by simp) ⟨by simp only;omega,by simp only;omega,hi⟩ (by simp only;omega)
   ·simp[hx2]
    have hi:=hi.out;rw[if_neg (by simp[hf])]at hi
    refine az (OI x.rules hRx) (by simp) ?_
    simp(disch:=omega);refine hN.out _<|Nx.mk (k+1,out++[⟨_,[],lu x.rules⟩]) (by simp) ⟨by simp only;omega,by simp;omega,hi⟩ (by simp only;omega)
def fdx{α:Type}(f:α->Bool):Nat->List α->Int
 |_,[]=>-1
 |k,x::l=>if f x then k else fdx f (k+1) l
theorem Ir{α}(f):∀(l:List α)(k:Nat),decide (0<=fdx f k l)=l.any f
 |[],k=>by simp[fdx]
 |x::l,k=>by
   simp only[fdx,zDe];split
   ·rename_i h;simp[h]
   ·rename_i h;simp only[zDa]at h;rw[Ir f l (k+1),h];rfl
theorem Xs(s):∀l:List Str,l.any (λx=>decide (s=x))=hasS l s
 |[]=>rfl
 |x::l=>by
   simp only[zDe,hasS,Xs s l];by_cases h:x=s
   ·simp[h]
   ·have:¬s=x:=λe=>h e.symm
    simp[h,this]
theorem kx(l)(s:Str):Fn ŷ lR [.seq 1 (l.map .str),.str s] (.int .i64 (fdx (λx=>decide (s=x)) 0 l)):=by
 refine yoB lZ λho=>?_;simp only[oks,ok,and_true]at ho;have hlen:l.length<=140737488355328:=by have:=ho.1.1;simpa using this
 clear ho;simp;generalize hr:fdx (λx=>decide (s=x)) 0 l=r;refine ah (λk:Nat=>⟨[(0,.seq 1 (l.map .str)),(1,.str s),(7,.int .i64 l.length),(8,.int .i64 k)],[]⟩) (λk=>k<=l.length/\fdx (λx=>decide (s=x)) k (l.drop k)=r) (λk=>l.length-k) [] _ 0 rfl (by simp) (by simp[*]) ?_
 rintro k ⟨hk,hi⟩ N hN;rcases place l k hk with⟨he,hd⟩|⟨hlt,x,hx,hd⟩<;>rw[hd]at hi<;>replace hi:=hid hi
 ·simp[he]
  simpa[fdx]using hi.out
 ·simp(disch:=omega) [hx]
  refine BrKd.mk (λh=>?_) (λh=>?_)
  ·simp
   have hi:=hi.out;simpa[fdx,h]using hi
  ·simp(disch:=omega)
   refine hN.out _<|Nx.mk (k+1) (by simp) ⟨by omega,?_⟩ (by omega)
   have hi:=hi.out;simpa[fdx,h]using hi
theorem f_slices_Contains_string(l)(s:Str):Fn ŷ jx [.seq 1 (l.map .str),.str s] (.bool (hasS l s)):=by
 refine yoB jN λho=>?_;simp only[oks,ok,and_true]at ho;simp;refine aa (kx _ _) rfl λ_=>?_;simp;rw[Ir,Xs]
def dH(s p:Str):Bool:=decide (p.length<=s.length)&&decide (s.take p.length=p)
theorem je(s p:Str):Fn ŷ jE [.str s,.str p] (.bool (dH s p)):=by
 refine yoB jR λho=>?_;simp only[oks,ok,and_true]at ho;simp[dH]
 repeat' (first|(refine BrKd.mk (λh=>?_) (λh=>?_)<;>simp[*])|(refine BrK.mk (λh=>?_) (λh=>?_)<;>simp(disch:=omega) [*]))
theorem mZ(s p:Str):Fn ŷ yD [.str s,.str p] (.bool (dH s p)):=by
 refine yoB yK λho=>?_;simp only[oks,ok,and_true]at ho;simp
 repeat' (first|(refine BrKd.mk (λh=>?_) (λh=>?_)<;>simp(disch:=omega) [*])|(refine BrK.mk (λh=>?_) (λh=>?_)<;>simp(disch:=omega) [*])|(refine aa (je _ _) rfl (λ_=>?_)<;>simp)|(refine aw (je _ _) rfl ?_<;>simp(disch:=omega) [*]))
theorem f_lang_isValue(s:Str):Fn ŷ JB [.str s] (.bool (s.all sign)):=by
 refine yoB J9 λho=>?_;simp only[oks,ok,and_true]at ho;simp;generalize hr:s.all sign=r;refine ah (λk:Nat=>⟨[(0,.str s),(3,.int .i64 k)],[]⟩) (λk=>k<=s.length/\(s.drop k).all sign=r) (λk=>s.length-k) [] _ 0 rfl (by simp) (by simp[*]) ?_
 rintro k ⟨hk,hi⟩ N hN;rcases place s k hk with⟨he,hd⟩|⟨hlt,x,hx,hd⟩<;>rw[hd]at hi<;>replace hi:=hid hi
 ·simp[he]
  simpa using hi.out
 ·simp(disch:=omega) [hx]
  repeat' (first|(refine BrKd.mk (λh=>?_) (λh=>?_)<;>simp(disch:=omega) [*])|(refine BrK.mk (λh=>?_) (λh=>?_)<;>simp(disch:=omega) [*]))
  all_goals first
   |(refine hN.out _<|Nx.mk (k+1) (by simp) ⟨by omega,?_⟩ (by omega);simpa(disch:=omega) [*,decide_eq_true,decide_eq_false,sign]using hi.out)
   |(first|simpa(disch:=omega) [*,decide_eq_true,decide_eq_false,sign]using hi.out.symm|simpa(disch:=omega) [*,decide_eq_true,decide_eq_false,sign]using hi.out)
theorem eZ(c):∀s:Str,Lib.indexByte s c<(s.length:Int)+1/\(0<=Lib.indexByte s c->Lib.indexByte s c<s.length)
 |[]=>by simp[Lib.indexByte]
 |b::l=>by
   have:=eZ c l;unfold Lib.indexByte;simp only[zAd];split
   ·omega
   ·split
    ·omega
    ·omega
theorem cF(s:Str)(c):Fn ŷ b9 [.str s,.int .u8 c.toNat] (.int .i64 (Lib.indexByte s c)):=by
 refine Fn.ext Tryz.func293 (by kernel_rfl) (by kernel_rfl) (by kernel_rfl) (e:=Extern.BytealgIndexByte.indexByte) (by kernel_rfl) ?_
 intro M w cs hM hus;obtain⟨cl⟩:=cs;simp only[af]at hus;obtain⟨_,_,rfl,⟨bs,rfl,rfl,_⟩,_,_,rfl,⟨rfl,_⟩,rfl⟩:=hus;refine⟨_,Lib.run_indexByteString bs (c.toNat:Int) w,?_⟩;have hc:((c.toNat:Int)).toNat.toUInt8=c:=by simp
 rw[hc];simp only[rep];have h1:=Lib.indexByte_ge bs.data.toList c;have h2:=eZ c bs.data.toList;refine⟨trivial,?_,?_⟩
 ·simp;omega
 ·simp;omega
theorem jd(s:Str)(c):Fn ŷ dP [.str s,.int .u8 c.toNat] (.int .i64 (Lib.indexByte s c)):=by
 refine yoB dS λho=>?_;simp only[oks,ok,and_true]at ho;simp
 repeat' (first|(refine BrKd.mk (λh=>?_) (λh=>?_)<;>simp(disch:=omega) [*])|(refine BrK.mk (λh=>?_) (λh=>?_)<;>simp(disch:=omega) [*])|(refine aa (cF _ _) rfl (λ_=>?_)<;>simp)|(refine aw (cF _ _) rfl ?_<;>simp(disch:=omega) [*]))
theorem wX(s:Str)(c):Fn ŷ fx [.str s,.str [c]] (.int .i64 (Lib.indexByte s c)):=by
 refine yoB mI λho=>?_;simp only[oks,ok,and_true]at ho;simp
 repeat' (first|(refine BrKd.mk (λh=>?_) (λh=>?_)<;>simp)|(refine BrK.mk (λh=>?_) (λh=>?_)<;>simp(disch:=omega) [*])|(refine aa (jd _ _) rfl (λ_=>?_)<;>simp)|(refine aw (jd _ _) rfl ?_<;>simp(disch:=omega) [*]))
 all_goals (try (subst h;simp[Lib.indexByte]))
def cutB(s:Str)(c:UInt8):Str×Str×Bool:=if 0<=Lib.indexByte s c then(s.take (Lib.indexByte s c).toNat,s.drop ((Lib.indexByte s c).toNat+1),ť)else(s,[],ğ)
theorem pg(s:Str)(c):Fn ŷ oJ [.str s,.str [c]] (.tup [.str (cutB s c).1,.str (cutB s c).2.1,.bool (cutB s c).2.2]):=by
 refine yoB oY λho=>?_;simp only[oks,ok,and_true]at ho;have hb:=eZ c s;have hg:=Lib.indexByte_ge s c;simp;refine aa (wX _ _) rfl λ_=>?_;unfold cutB;generalize Lib.indexByte s c=n at *;simp;refine BrKd.mk (λh=>?_) (λh=>?_)
 ·obtain⟨m,rfl⟩:=Int.eq_ofNat_of_zero_le h
  have hm:=hb.2 h;simp(disch:=omega);rw[zAi (by simp)]
 ·simp[h]
theorem f_strings_Cut1(s:Str)(c):Fn ŷ Md [.str s,.str [c]] (.tup [.str (cutB s c).1,.str (cutB s c).2.1,.bool (cutB s c).2.2]):=by
 refine yoB MU λho=>?_;simp only[oks,ok,and_true]at ho;simp
 repeat' (first|(refine BrKd.mk (λh=>?_) (λh=>?_)<;>simp(disch:=omega) [*])|(refine BrK.mk (λh=>?_) (λh=>?_)<;>simp(disch:=omega) [*])|(refine aa (pg _ _) rfl (λ_=>?_)<;>simp)|(refine aw (pg _ _) rfl ?_<;>simp(disch:=omega) [*]))
def allowsL(c:Constraint)(v:Str):Bool:=
 v.all sign&&(decide (c.kind=1)||((decide (c.kind=2)&&hasS c.words v)||(decide (c.kind=3)&&(!(cutB v 58).2.2||hasS c.words (cutB v 58).1))))
structure Node where
 kind:Int
 name:Str
 attrs:List Attr
 text:Str
 kids:List Node
mutual
def Node.v:Node->V
 |⟨k,n,a,t,ks⟩=>.strct [.int .i64 k,.str n,.seq 2 (a.map Attr.v),.str t,.seq 5 (Node.vs ks)]
def Node.vs:List Node->List V
 |[]=>[]
 |n::l=>n.v::Node.vs l
end
theorem Node.vs_map:∀l:List Node,Node.vs l=l.map Node.v
 |[]=>by simp[Node.vs]
 |n::l=>by simp[Node.vs,Node.vs_map l]
theorem Node.v_eq(n:Node):n.v=.strct [.int .i64 n.kind,.str n.name,.seq 2 (n.attrs.map Attr.v),.str n.text,.seq 5 (n.kids.map Node.v)]:=by
 cases n;simp[Node.v,Node.vs_map]
attribute [simp] Node.v_eq
section
variable {p:List Node->Prop}(h0:p [])(h1:∀n l,p n.kids->p l->p (n::l))
include h0 h1
mutual
theorem aE:∀l,p l
 |[]=>h0
 |n::l=>h1 n l (Ys n) (aE l)
theorem Ys:∀n:Node,p n.kids
 |⟨_,_,_,_,ks⟩=>aE ks
end
end
def mW(p:Policy)(par:Str):List Str:=if par=[]then p.top else((aJ p.elements par).getD .zero).kids
theorem TP(p)(par:Str):Fn ŷ Rt [p.v,.str par] (.seq 1 ((mW p par).map .str)):=by
 refine yoA Sn ?_;simp[mW];refine BrKd.mk (λh=>?_) (λh=>?_)
 ·simp[h]
 ·simp[h]
  refine ae (gQ p par) (by simp) λ_=>?_
  simp
def lz(p:Policy)(par:Str)(n:Node):Bool:=
 if n.kind=2 then hasS (mW p par) ja else if n.kind=3 then hasS (mW p par) dU else decide (n.kind=1)&&hasS (mW p par) n.name
theorem K6(p)(par:Str)(n):Fn ŷ Jt [p.v,.str par,n.v] (.bool (lz p par n)):=by
 refine yoA JY ?_;simp[lz];refine ae (TP p par) (by simp) λ_=>?_
 simp
 repeat' (first
  |(refine BrKd.mk (λh=>?_) (λh=>?_)<;>simp[*])
  |(refine BrK.mk (λh=>?_) (λh=>?_)<;>simp(disch:=omega) [*])
  |(refine aa (mf (mW p par) _) rfl (λ_=>?_)<;>simp(disch:=omega) [ja,dU, *]))
def fits(pat nm:Str):Bool:=plain (cZ pat).1&&(if(cZ pat).2 then dH nm (cZ pat).1 else decide (nm=(cZ pat).1))
theorem TQ(pat nm:Str):Fn ŷ Rv [.str pat,.str nm] (.bool (fits pat nm)):=by
 refine yoB Sp λho=>?_;simp only[oks,ok,and_true]at ho
 have hs:(cZ pat).1.length<=pat.length:=by
  unfold cZ;split
  ·split<;>simp
  ·simp
 simp[fits];refine aa (C7 _) rfl λ_=>?_;simp;refine aa (lD _) rfl λ_=>?_;generalize(cZ pat).1=a at *;generalize(cZ pat).2=b at *;simp
 repeat' (first|(refine BrKd.mk (λh=>?_) (λh=>?_)<;>simp[*])|(refine BrK.mk (λh=>?_) (λh=>?_)<;>simp[*]))
 all_goals simp[dH, *]
def dK:List Rule->Str->Option Rule
 |[],_=>none
 |r::l,s=>if fits r.name s then ś r else dK l s
def Rule.zero:Rule:=⟨[],⟨0,[],[]⟩,ğ⟩
theorem TO(e:Allowed)(s:Str):Fn ŷ Rs [e.v,.str s] (.tup [((dK e.rules s).getD .zero).v,.bool (dK e.rules s).isSome]):=by
 refine yoB Sm λho=>?_;simp only[oks,ok,and_true]at ho;have hlen:e.rules.length<=140737488355328:=by have:=ho.1;simp at this;exact this.2.2.1
 clear ho;simp;generalize hr:dK e.rules s=r;refine ah (λk:Nat=>⟨[(1,.str s),(2,.ptr 0 0),(4,.ptr 1 0),(6,.int .i64 k)],[ś (.box [.str e.name,.seq 1 (e.kids.map .str),.seq 5 (e.rules.map Rule.v)]),ś (.box [.str [],.int .i64 0,.nil 1,.str [],.bool ğ])]⟩) (λk=>k<=e.rules.length/\dK (e.rules.drop k) s=r) (λk=>e.rules.length-k) [] _ 0 rfl (by simp) (by simp[*]) ?_
 rintro k ⟨hk,hi⟩ N hN;rcases place e.rules k hk with⟨he,hd⟩|⟨hlt,x,hx,hd⟩<;>rw[hd]at hi<;>replace hi:=hid hi
 ·simp[he]
  simp[<-hi.out,dK,Rule.zero]
 ·simp(disch:=omega) [hx]
  refine aa (TQ _ _) rfl λ_=>?_;simp;refine BrK.mk (λh=>?_) (λh=>?_)
  ·simp[hx]
   have hi:=hi.out;simp[dK,h]at hi;subst hi;simp
  ·simp(disch:=omega)
   refine hN.out _<|Nx.mk (k+1) (by simp) ⟨by omega,?_⟩ (by omega)
   have hi:=hi.out;simpa[dK,h]using hi
def xU(A:Constraint->Str->Bool)(e:Allowed)(a:Attr):Bool:=match dK e.rules a.name with
 |some r=>A r.value a.value
 |none=>ğ
theorem rX:∀{l:List Rule}{s:Str}{r:Rule},dK l s=ś r->r∈l/\fits r.name s=ť
 |[],s,r,h=>by simp[dK]at h
 |x::l,s,r,h=>by
   simp only[dK]at h;split at h
   ·cases h;exact⟨by simp,by assumption⟩
   ·obtain⟨h1,h2⟩:=rX h;exact⟨by simp[h1],h2⟩
theorem TL(A)(e)(a)(hA:∀r∈e.rules,Fn ŷ eB [r.value.v,.str a.value] (.bool (A r.value a.value))):
 Fn ŷ Ro [e.v,a.v] (.bool (xU A e a)):=by
 refine yoA Si ?_;simp[xU];refine ae (TO e a.name) (by simp) λ_=>?_
 cases hf:dK e.rules a.name with
 |none=>
   simp
 |some r=>
   simp;refine aa (by simpa using hA r (rX hf).1) rfl λ_=>?_
   simp
def wl(A:Constraint->Str->Bool)(e:Allowed)(l:List Attr):List Attr:=l.filter (xU A e)
theorem TK(A)(e)(l)(hl:l.length<=1000000)(hA:∀r∈e.rules,∀a∈l,Fn ŷ eB [r.value.v,.str a.value] (.bool (A r.value a.value))):
 FnN ŷ Rn [e.v,.seq 2 (l.map Attr.v)] (.seq 2 ((wl A e l).map Attr.v)):=by
 refine FnN.of_image mixed Sh.1 Sh.2 rfl λho=>?_;clear ho;simp;generalize hw:wl A e l=w
 refine ah (λ(q:Nat×List Attr)=>⟨[(1,.seq 2 (l.map Attr.v)),(2,.ptr 0 0),(5,.ref 1 q.2.length),(6,.int .i64 q.1)],[ś (.box [.str e.name,.seq 1 (e.kids.map .str),.seq 5 (e.rules.map Rule.v)]),ś (.arr bW 2 (q.2.map Attr.v))]⟩)
  (λq=>q.1<=l.length/\q.2.length<=q.1/\q.2++wl A e (l.drop q.1)=w) (λq=>l.length-q.1) [.r 5 bW 2] _ (0,[]) rfl (by simp) (by simp[<-hw]) ?_
 rintro⟨k,out⟩ ⟨hk,hol,hi⟩ N hN;simp only at hk hol hi;have hfl:∀l:List Attr,dJ (l.map Attr.v)=true:=λl=>by induction l<;>simp[dJ,dA, *]
 rcases place l k hk with⟨he,hd⟩|⟨hlt,x,hx,hd⟩<;>rw[hd]at hi
 ·simp[wl]at hi
  subst hi;simp[he,hfl]
 ·simp only[wl,zBb]at hi
  replace hi:=hid hi;simp(disch:=omega) [hx];refine aw (by simpa using TL A e x (λr hr=>hA r hr x (zAb hx))) rfl ?_
  simp;refine BrK.mk (λh=>?_) (λh=>?_)
  ·simp(disch:=omega) [hx]
   have hi:=hi.out;refine hN.out _<|Nx.mk (k+1,out++[x]) (by simp) ⟨by simp only;omega,by simp;omega,?_⟩ (by simp only;omega)
   simpa[h,wl]using hi
  ·simp(disch:=omega)
   have hi:=hi.out;refine hN.out _<|Nx.mk (k+1,out) (by simp) ⟨by simp only;omega,by simp only;omega,?_⟩ (by simp only;omega)
   simpa[h,wl]using hi
def fT:List Attr->Str->Option Str
 |[],_=>none
 |a::l,s=>if a.name=s then ś a.value else fT l s
theorem zB(n:Node)(s:Str):Fn ŷ Mw [n.v,.str s] (.tup [.str ((fT n.attrs s).getD []),.bool (fT n.attrs s).isSome]):=by
 refine yoB Nk λho=>?_;simp only[oks,ok,and_true]at ho;have hlen:n.attrs.length<=140737488355328:=by have:=ho.1;simp at this;exact this.2.2.1.1
 clear ho;simp;generalize hr:fT n.attrs s=r;refine ah (λk:Nat=>⟨[(1,.str s),(2,.ptr 0 0),(6,.int .i64 k)],[ś (.box [.int .i64 n.kind,.str n.name,.seq 2 (n.attrs.map Attr.v),.str n.text,.seq 5 (n.kids.map Node.v)])]⟩) (λk=>k<=n.attrs.length/\fT (n.attrs.drop k) s=r) (λk=>n.attrs.length-k) [] _ 0 rfl (by simp) (by simp[*]) ?_
 rintro k ⟨hk,hi⟩ N hN;rcases place n.attrs k hk with⟨he,hd⟩|⟨hlt,x,hx,hd⟩<;>rw[hd]at hi<;>replace hi:=hid hi
 ·simp[he]
  simp[<-hi.out,fT]
 ·simp(disch:=omega) [hx]
  refine BrKd.mk (λh=>?_) (λh=>?_)
  ·simp[hx]
   have hi:=hi.out;simp[fT,h]at hi;subst hi;simp
  ·simp(disch:=omega)
   refine hN.out _<|Nx.mk (k+1) (by simp) ⟨by omega,?_⟩ (by omega)
   have hi:=hi.out;simpa[fT,h]using hi
def whole(e:Allowed)(l:List Attr):Bool:=e.rules.all λr=>!(r.req&& !(fT l r.name).isSome)
theorem OF(e)(l):Fn ŷ Mg [e.v,.seq 2 (l.map Attr.v)] (.bool (whole e l)):=by
 refine yoB M4 λho=>?_;simp only[oks,ok,and_true]at ho;have hlen:e.rules.length<=140737488355328:=by have:=ho.1;simp at this;exact this.2.2.1
 clear ho;simp;generalize hr:whole e l=r;refine ah (λk:Nat=>⟨[(1,.seq 2 (l.map Attr.v)),(2,.ptr 0 0),(5,.int .i64 k)],[ś (.box [.str e.name,.seq 1 (e.kids.map .str),.seq 5 (e.rules.map Rule.v)])]⟩) (λk=>k<=e.rules.length/\((e.rules.drop k).all λr=>!(r.req&& !(fT l r.name).isSome))=r) (λk=>e.rules.length-k) [] _ 0 rfl (by simp) (by simp[<-hr,whole]) ?_
 rintro k ⟨hk,hi⟩ N hN;rcases place e.rules k hk with⟨he,hd⟩|⟨hlt,x,hx,hd⟩<;>rw[hd]at hi<;>replace hi:=hid hi
 ·simp[he]
  simpa using hi.out
 ·simp only[zBe]at hi
  simp(disch:=omega) [hx];refine aa (by simpa using zB ⟨0,[],l,[],[]⟩ x.name) rfl λ_=>?_
  simp[hx];refine BrK.mk (λh1=>?_) (λh1=>?_)
  ·simp[h1]
   refine BrK.mk (λh2=>?_) (λh2=>?_)
   ·simp(disch:=omega)
    refine hN.out _<|Nx.mk (k+1) (by simp) ⟨by omega,?_⟩ (by omega)
    have hi:=hi.out;simpa[h1,h2]using hi
   ·simp
    have hi:=hi.out;simpa[h1,h2]using hi
  ·simp(disch:=omega) [h1]
   refine hN.out _<|Nx.mk (k+1) (by simp) ⟨by omega,?_⟩ (by omega)
   have hi:=hi.out;simpa[h1]using hi
def zo(A:Constraint->Str->Bool)(e:Allowed)(l:List Attr):Bool:=decide ((wl A e l).length=l.length)&&whole e l
theorem OH(A)(e)(l)(hl:l.length<=1000000)(hA:∀r∈e.rules,∀a∈l,Fn ŷ eB [r.value.v,.str a.value] (.bool (A r.value a.value))):
 Fn ŷ Mh [e.v,.seq 2 (l.map Attr.v)] (.bool (zo A e l)):=by
 refine yoA M6 ?_;simp[zo];refine fD (by simpa using TK A e l hl hA) λ_=>?_
 simp;refine BrKd.mk (λh=>?_) (λh=>?_)
 ·have h':(wl A e l).length=l.length:=by omega
  simp[h];refine aa (by simpa using OF e l) rfl λ_=>?_
  simp[h']
 ·have h':¬(wl A e l).length=l.length:=by omega
  simp[h']
mutual
def aae(f:Node->Prop):Node->Prop
 |⟨k,n,a,t,ks⟩=>f ⟨k,n,a,t,ks⟩/\aq f ks
def aq(f:Node->Prop):List Node->Prop
 |[]=>True
 |n::l=>aae f n/\aq f l
end
mutual
def ZV:Node->Nat
 |⟨k,n,a,t,ks⟩=>1+aK ks
def aK:List Node->Nat
 |[]=>0
 |n::l=>ZV n+aK l
end
theorem bE(f)(n):aae f n=(f n/\aq f n.kids):=by cases n;simp[aae]
theorem qn(n):ZV n=1+aK n.kids:=by cases n;simp[ZV]
theorem Uj:∀{l:List Node}{n:Node},n∈l->aK n.kids+1<=aK l
 |[],n,h=>by cases h
 |x::l,n,h=>by
   simp only[aK,qn];rcases zAh.1 h with rfl|h
   ·omega
   ·have:=Uj h;omega
theorem dB{f}:∀{l:List Node}{n:Node},aq f l->n∈l->f n/\aq f n.kids
 |[],n,_,h=>by cases h
 |x::l,n,ha,h=>by
   simp only[aq,bE]at ha;rcases zAh.1 h with rfl|h
   ·exact ha.1
   ·exact dB ha.2 h
def oE(A:Constraint->Str->Bool)(p:Policy)(par:Str)(n:Node):Bool:=
 lz p par n&&(!decide (n.kind=1)||zo A ((aJ p.elements n.name).getD .zero) n.attrs)
mutual
def afd(A:Constraint->Str->Bool)(p:Policy):Node->Int×Nat
 |⟨_,nm,_,_,ks⟩=>dD A p nm ks 0
def dD(A:Constraint->Str->Bool)(p:Policy)(par:Str):List Node->Nat->Int×Nat
 |[],many=>(-1,many)
 |n::l,many=>if oE A p par n then(if 0<=(afd A p n).1 then((many+1:Int)+(afd A p n).1,many+1)else dD A p par l (many+1+(afd A p n).2))else(many,many)
end
theorem Im(A)(p)(n):afd A p n=dD A p n.name n.kids 0:=by cases n;simp[afd]
theorem yj(A)(p):∀(l:List Node)(par:Str)(many:Nat),many<=(dD A p par l many).2/\(dD A p par l many).2<=many+aK l/\-1<=(dD A p par l many).1/\(dD A p par l many).1<=many+aK l:=by
 refine aE (λpar many=>by simp[dD,aK]) ?_
 intro n l h1 h2 par many;have g1:=h1 n.name 0;simp only[dD,aK,qn,Im];split
 ·split
  ·simp only;omega
  ·have g2:=h2 par (many+1+(dD A p n.name n.kids 0).2)
   omega
 ·simp only;omega
def KY(n:Node):Prop:=n.attrs.length<=1000000/\∀a∈n.attrs,a.value.length<=1000
theorem k8:∀{l:List Allowed}{s:Str}{r:Allowed},aJ l s=ś r->r∈l/\r.name=s
 |[],s,r,h=>by simp[aJ]at h
 |x::l,s,r,h=>by
   simp only[aJ]at h;split at h
   ·cases h;exact⟨by simp,by assumption⟩
   ·obtain⟨h1,h2⟩:=k8 h;exact⟨by simp[h1],h2⟩
def D4(A:Constraint->Str->Bool)(p:Policy):Prop:=∀e∈p.elements,∀r∈e.rules,∀v:Str,v.length<=1000->Fn ŷ eB [r.value.v,.str v] (.bool (A r.value v))
theorem WO (A) (p) (hA:D4 A p):∀ (l:List Node) (par:Str),aq KY l→aK l≤1000000000→
 Fn ŷ p4 [p.v,.str par,.seq 5 (l.map Node.v)] (.tup [.int .i64 (dD A p par l 0).1,.int .i64 (dD A p par l 0).2]):=by
 have key:∀ l:List Node,(∀ n∈l,∀ (par:Str),aq KY n.kids→aK n.kids≤1000000000→Fn ŷ p4 [p.v,.str par,.seq 5 (n.kids.map Node.v)] (.tup [.int .i64 (dD A p par n.kids 0).1,.int .i64 (dD A p par n.kids 0).2]))→
  ∀ (par:Str),aq KY l→aK l≤1000000000→Fn ŷ p4 [p.v,.str par,.seq 5 (l.map Node.v)] (.tup [.int .i64 (dD A p par l 0).1,.int .i64 (dD A p par l 0).2]):=by
  intro l hrec par hfi hc
  refine yoB VP λho=>?_
  simp only [oks,ok,and_true] at ho
  have hlen:l.length≤140737488355328:=by have:=ho.2.2; simp at this; exact this.1
  clear ho
  simp (disch:=omega) [-zAa]
  generalize hR:dD A p par l 0=R
  have hRb:=yj A p l par 0
  rw [hR] at hRb
  refine ah (λ(q:Nat × Nat)=>⟨[(1,.str par),(2,.seq 5 (l.map Node.v)),(3,.ptr 0 0),(8,.int .i64 q.2),(9,.int .i64 q.1)],[ś (.box [.seq 1 (p.top.map .str),.seq 3 (p.elements.map Allowed.v),.seq 1 (p.unwrap.map .str)])]⟩)
   (λq=>q.1≤l.length∧dD A p par (l.drop q.1) q.2=R) (λq=>l.length - q.1) [] _ (0,0) rfl (by simp) (by simp [hR]) ?_
  rintro ⟨k,many⟩ ⟨hk,hi⟩ N hN
  simp only at hk hi
  rcases place l k hk with ⟨he,hd⟩ | ⟨hlt,x,hx,hd⟩<;>rw [hd] at hi
  · simp only [dD] at hi
    subst hi
    simp (disch:=omega) [-zAa,he]
  · have hxm:=zAb hx
    obtain ⟨hfx,hfk⟩:=dB hfi hxm
    have hcx:=Uj hxm
    have hm:=yj A p (l.drop k) par many
    rw [hd,hi] at hm
    have hxk:=yj A p x.kids x.name 0
    simp only [dD,Im] at hi
    replace hi:=hid hi
    simp (disch:=omega) [-zAa,hx]
    refine aw (by simpa using K6 p par x) rfl ?_
    simp (disch:=omega) [-zAa,hx]
    refine az (by simpa using gQ p x.name) (by simp) ?_
    have hAe:∀ r∈((aJ p.elements x.name).getD .zero).rules,∀ a∈x.attrs,Fn ŷ eB [r.value.v,.str a.value] (.bool (A r.value a.value)):=by
     intro r hr a ha
     cases hf:aJ p.elements x.name with
     | none=>rw [hf] at hr; simp [Allowed.zero] at hr
     | some e=>rw [hf] at hr; exact hA e (k8 hf).1 r hr a.value (hfx.2 a ha)
    generalize hE:(aJ p.elements x.name).getD .zero=E at hAe
    have bad:oE A p par x=ğ→R=((many:Int),many):=λh=>by have hi:=hi.out; rw [if_neg (by simp [h])] at hi; exact hi.symm
    have good:oE A p par x=ť→(if 0≤(dD A p x.name x.kids 0).1 then ((many + 1:Int) + (dD A p x.name x.kids 0).1,many + 1) else dD A p par (l.drop (k + 1)) (many + 1 + (dD A p x.name x.kids 0).2))=R:=λh=>by have hi:=hi.out; rw [if_pos h] at hi; exact hi
    replace bad:=hid bad
    replace good:=hid good
    have fin:oE A p par x=ť→∀ τ:St,τ.nrm [1,2,3,8,9]=⟨[(1,.str par),(2,.seq 5 (l.map Node.v)),(3,.ptr 0 0),(8,.int .i64 ((many + 1 + (dD A p x.name x.kids 0).2:Nat):Int)),(9,.int .i64 ((k + 1:Nat):Int))],[ś (.box [.seq 1 (p.top.map .str),.seq 3 (p.elements.map Allowed.v),.seq 1 (p.unwrap.map .str)])]⟩→
     ¬0≤(dD A p x.name x.kids 0).1→N τ:=by
     intro h τ hτ hn
     have g:=good.out h
     rw [if_neg hn] at g
     exact hN.out _<|Nx.mk (k + 1,many + 1 + (dD A p x.name x.kids 0).2) hτ ⟨by simp only; omega,g⟩ (by simp only; omega)
    simp (disch:=omega) [-zAa,hx]
    repeat' (first
     | (refine BrKd.mk (λh=>?_) (λh=>?_)<;>simp (disch:=omega) [hE, *])
     | (refine BrK.mk (λh=>?_) (λh=>?_)<;>simp (disch:=omega) [hE, *])
     | (refine aw (by simpa using OH A E x.attrs hfx.1 hAe) rfl ?_<;>simp (disch:=omega) [*])
     | (refine aw (by simpa using hrec x hxm x.name hfk (by omega)) rfl ?_<;>simp (disch:=omega) [*]))
    all_goals
     first
     | (have hb:=bad.out (by simp [oE,hE, *]); simp [hb]; done)
     | (have hok:oE A p par x=true:=by simp [oE,hE, *]
        first
        | (refine fin hok _ (by simp<;>omega) (by omega); done)
        | (have g:=good.out hok
           rw [if_pos (show 0≤(dD A p x.name x.kids 0).1 by omega)] at g
           simp [←g]; done))
 have all:∀ l:List Node,∀ n∈l,∀ (par:Str),aq KY n.kids→aK n.kids≤1000000000→Fn ŷ p4 [p.v,.str par,.seq 5 (n.kids.map Node.v)] (.tup [.int .i64 (dD A p par n.kids 0).1,.int .i64 (dD A p par n.kids 0).2]):=by
  refine aE (λx hx=>by cases hx) ?_
  intro n l h1 h2 x hx
  rcases zAh.1 hx with rfl | hx
  · exact λpar=>key _ h1 par
  · exact h2 x hx
 exact λl par=>key l (all l) par
def bV(b:UInt8):V:=.int .u8 b.toNat
theorem Z1(s:Str):lg s=s.map bV:=QI s
theorem abg(b):bV b=.int .u8 b.toNat:=rfl
attribute [simp] Z1 abg
def follows(b:UInt8):Bool:=decide (128<=b.toNat)&&decide (b.toNat<192)
theorem H6(b):Fn ŷ Hd [.int .u8 b.toNat] (.bool (follows b)):=by
 refine yoB Hr λho=>?_;simp only[oks,ok,and_true]at ho;simp[follows]
 repeat' (first|(refine BrKd.mk (λh=>?_) (λh=>?_)<;>simp[*])|(refine BrK.mk (λh=>?_) (λh=>?_)<;>simp(disch:=omega) [*]))
def hdr(c:Nat):Nat×Nat×Nat:=
 if 192<=c/\c<224 then(2,c-192,128)else if 224<=c/\c<240 then(3,c-224,2048)else if 240<=c/\c<248 then(4,c-240,65536)else(0,0,0)
def goV:Str->Nat->Option Nat
 |[],v=>ś v
 |b::l,v=>if follows b then goV l (64*v+b.toNat-128)else none
def Cf(n least:Nat):Option Nat->Nat×Nat
 |none=>(65533,1)
 |some v=>if v<least\/1114111<v\/(55296<=v/\v<=57343)then(65533,1)else(v,n)
def one:Str->Nat×Nat
 |[]=>(65533,1)
 |b::t=>if b.toNat<128 then(b.toNat,1)
   else if(hdr b.toNat).1=0\/t.length+1<(hdr b.toNat).1 then(65533,1)
   else Cf (hdr b.toNat).1 (hdr b.toNat).2.2 (goV (t.take ((hdr b.toNat).1-1)) (hdr b.toNat).2.1)
theorem Ql(c):(hdr c).1=0\/(2<=(hdr c).1/\(hdr c).1<=4/\(hdr c).2.1<64/\(hdr c).2.2<=65536):=by
 unfold hdr;split
 ·simp;omega
 ·split
  ·simp;omega
  ·split
   ·simp;omega
   ·simp
theorem i5(s):1<=(one s).2/\(one s).2<=4/\(s≠[]->(one s).2<=s.length)/\(one s).1<=1114111/\¬(55296<=(one s).1/\(one s).1<=57343):=by
 cases s with
 |nil=>simp[one]
 |cons b t=>
   have hb:=b.toNat_lt;have hr:=Ql b.toNat;simp only[one];split
   ·simp;omega
   ·split
    ·simp
    ·rename_i h
     unfold Cf;split
     ·simp
     ·split
      ·simp
      ·rename_i h2
       simp only[zAd];omega
theorem Zd{b}(h:follows b=ť):128<=b.toNat/\b.toNat<192:=by simpa[follows]using h
theorem WV(b)(t:Str):Fn ŷ Vs [.seq 1 ((b::t).map bV)] (.tup [.int .i32 (one (b::t)).1,.int .i64 (one (b::t)).2]):=by
 refine yoB V3 λho=>?_;simp only[oks,ok,and_true]at ho;have hlen:t.length<140737488355328:=by have:=ho.1;simp at this;omega
 clear ho;have hb:=b.toNat_lt;generalize hR:one (b::t)=R;have hR2:=hR;simp only[one]at hR2;simp(disch:=omega);have hr:=Ql b.toNat;refine BrKd.mk (λh=>?_) (λh=>?_)
 ·rw[if_pos h]at hR2
  simp(disch:=omega) [<-hR2]
 ·rw[if_neg h]at hR2
  have hz:(hdr b.toNat).1=0->R=(65533,1):=λh=>by rw[if_pos (.inl h)]at hR2;exact hR2.symm
  have hs:t.length+1<(hdr b.toNat).1->R=(65533,1):=λh=>by rw[if_pos (.inr h)]at hR2;exact hR2.symm
  have hok:¬(hdr b.toNat).1=0->¬t.length+1<(hdr b.toNat).1->Cf (hdr b.toNat).1 (hdr b.toNat).2.2 (goV (t.take ((hdr b.toNat).1-1)) (hdr b.toNat).2.1)=R:=λh h'=>by rw[if_neg (by simp[h,h'])]at hR2;exact hR2
  clear hR2;replace hz:=hid hz;replace hs:=hid hs;replace hok:=hid hok;simp
  repeat' (first
   |(refine BrKd.mk (λh=>?_) (λh=>?_)<;>simp(disch:=omega))
   |(refine BrK.mk (λh=>?_) (λh=>?_)<;>simp(disch:=omega) [*]))
  all_goals
   first
   |(have hq:hdr b.toNat=(2,b.toNat-192,128):=by unfold hdr;rw[if_pos (by omega)])
   |(have hq:hdr b.toNat=(3,b.toNat-224,2048):=by unfold hdr;rw[if_neg (by omega),if_pos (by omega)])
   |(have hq:hdr b.toNat=(4,b.toNat-240,65536):=by unfold hdr;rw[if_neg (by omega),if_neg (by omega),if_pos (by omega)])
   |(have hq:hdr b.toNat=(0,0,0):=by unfold hdr;rw[if_neg (by omega),if_neg (by omega),if_neg (by omega)])
   by_cases h0:(hdr b.toNat).1=0
   ·first
    |(have h0:=hz.out h0;simp[h0];done)
    |(exfalso;rw[hq]at h0;simp at h0;done)
   by_cases h1:t.length+1<(hdr b.toNat).1
   ·first
    |(have h0:=hs.out h1;simp[h0];done)
    |(exfalso;rw[hq]at h1;simp at h1;omega)
   first
   |(exfalso;rw[hq]at h0;exact h0 rfl)
   |(exfalso;rw[hq]at h1;simp only at h1;omega)
   |skip
  all_goals
   obtain⟨n,hn⟩:∃n:Nat,n=(hdr b.toNat).1:=⟨_,rfl⟩;obtain⟨v0,hv⟩:∃n:Nat,n=(hdr b.toNat).2.1:=⟨_,rfl⟩;obtain⟨le,hl⟩:∃n:Nat,n=(hdr b.toNat).2.2:=⟨_,rfl⟩;rw[<-hn,<-hv,<-hl]at hok hr;rw[hq]at hn hv hl;simp only at hn hv hl;have hok:=hok.out (by omega) (by omega)
   have htl:(t.take (n-1)).length=n-1:=by rw[zAe];omega
   refine ah (λ(q:Nat×Nat)=>⟨[(0,.seq 1 ((b::t).map bV)),(5,.int .i64 n),(6,.int .i64 q.2),(7,.int .i64 le),(8,.int .i64 ((q.1:Int)+1))],[]⟩)
    (λq=>q.1<=(t.take (n-1)).length/\Cf n le (goV ((t.take (n-1)).drop q.1) q.2)=R/\((q.1=0/\q.2<64)\/(q.1=1/\q.2<4096)\/(q.1=2/\q.2<262144)\/(q.1=3/\q.2<16777216))) (λq=>(t.take (n-1)).length-q.1) [] _ (0,v0) rfl (by simp[hn,hv,hl];omega) (by simp[hok];omega) ?_
   have hn24:2<=n/\n<=4/\le<=65536:=by omega
   clear hq hn hv hl;rintro⟨j,v⟩ ⟨hj,hi,hvb⟩ N hN;simp only at hj hi hvb;rcases place (t.take (n-1)) j hj with⟨he,hd⟩|⟨hlt,x,hx,hd⟩<;>rw[hd,goV]at hi
   ·simp only[Cf]at hi
    have bad:(v<le\/1114111<v\/(55296<=v/\v<=57343))->R=(65533,1):=λh=>by rw[if_pos h]at hi;exact hi.symm
    have good:¬(v<le\/1114111<v\/(55296<=v/\v<=57343))->R=(v,n):=λh=>by rw[if_neg h]at hi;exact hi.symm
    clear hi;replace bad:=hid bad;replace good:=hid good;have hjn:j+1=n:=by omega
    have hjn2:¬((j:Int)+1<n):=by omega
    simp[hjn2]
    repeat' (first
     |(refine BrKd.mk (λh=>?_) (λh=>?_)<;>simp(disch:=omega) [*])
     |(refine BrK.mk (λh=>?_) (λh=>?_)<;>simp(disch:=omega) [*]))
    all_goals first
     |(rw[bad.out (by omega)];simp;done)
     |(rw[good.out (by omega)];simp;done)
   ·have hx2:t[j]?=ś x:=by rw[zAf]at hx;simpa[show j<n-1 by omega]using hx
    have hxb:=x.toNat_lt;have hjn2:(j:Int)+1<n:=by omega
    replace hi:=hid hi;simp(disch:=omega) [hx2,hjn2];refine aa (H6 x) rfl λ_=>?_;simp;refine BrK.mk (λh=>?_) (λh=>?_)
    ·have hf:=Zd h
     simp(disch:=omega) [hx2];have hi:=hi.out;rw[if_pos h]at hi;refine hN.out _<|Nx.mk (j+1,64*v+x.toNat-128) (by simp;omega) ⟨by simp only;omega,hi,by simp only;omega⟩ (by simp only;omega)
    ·simp
     have hi:=hi.out;rw[if_neg (by simp[h])]at hi
     simp[<-hi,Cf]
def jv:Nat->Str->List Nat
 |0,_=>[]
 |_,[]=>[]
 |f+1,b::t=>(one (b::t)).1::jv f ((b::t).drop (one (b::t)).2)
def eN(s:Str):List Nat:=jv s.length s
theorem X7:∀(f:Nat)(s:Str),s.length<=f->jv f s=eN s:=by
 have key:∀(n f g:Nat)(s:Str),s.length<=n->s.length<=f->s.length<=g->jv f s=jv g s:=by
  intro n
  induction n with
  |zero=>intro f g s h1 _ _;have:s=[]:=zAg (by omega);subst this;cases f<;>cases g<;>rfl
  |succ n ih=>
    intro f g s h1 h2 h3;cases s with
    |nil=>cases f<;>cases g<;>rfl
    |cons b t=>
      cases f with
      |zero=>simp at h2
      |succ f=>cases g with
        |zero=>simp at h3
        |succ g=>
          simp only[jv];have:=i5 (b::t);simp only[zAd]at h1 h2 h3;rw[ih f g _ (by simp;omega) (by simp;omega) (by simp;omega)]
 intro f s h;exact key s.length f s.length s (zBi _) h (zBi _)
theorem iK(b)(t:Str):eN (b::t)=(one (b::t)).1::eN ((b::t).drop (one (b::t)).2):=by
 have:=i5 (b::t);rw[<-X7 t.length ((b::t).drop (one (b::t)).2) (by simp;omega)]
 rfl
theorem Po:∀(n:Nat)(s:Str),s.length<=n->(eN s).length<=s.length:=by
 intro n
 induction n with
 |zero=>intro s h;have:s=[]:=zAg (by omega);subst this;simp[eN,jv]
 |succ n ih=>
   intro s h;cases s with
   |nil=>simp[eN,jv]
   |cons b t=>
     have h1:=i5 (b::t);rw[iK];simp only[zAd]at h⊢;have:=ih ((b::t).drop (one (b::t)).2) (by simp;omega)
     simp at this;omega
theorem abT:∀(n:Nat)(s:Str),s.length<=n->∀r∈eN s,r<=1114111/\¬(55296<=r/\r<=57343):=by
 intro n
 induction n with
 |zero=>intro s h r hr;have:s=[]:=zAg (by omega);subst this;simp[eN,jv]at hr
 |succ n ih=>
   intro s h r hr;cases s with
   |nil=>simp[eN,jv]at hr
   |cons b t=>
     have h1:=i5 (b::t);rw[iK]at hr;simp only[zAd]at h;rcases zAh.1 hr with rfl|hr
     ·exact h1.2.2.2
     ·exact ih _ (by simp;omega) r hr
def rV(r:Nat):V:=.int .i32 r
theorem rV_eq(r):rV r=.int .i32 r:=rfl
attribute [simp] rV_eq
theorem OR(s)(hs:s.length<=1000000):FnN ŷ MB [.seq 1 (s.map bV)] (.seq 1 ((eN s).map rV)):=by
 refine FnN.of_image mixed No.1 No.2 rfl λho=>?_;clear ho;simp;generalize hw:eN s=w
 refine ah (λ(q:Nat×List Nat)=>⟨[(0,.seq 1 (s.map bV)),(3,.ref 0 q.2.length),(4,.int .i64 q.1)],[ś (.arr rA 1 (q.2.map rV))]⟩)
  (λq=>q.1<=s.length/\q.2.length<=q.1/\q.2++eN (s.drop q.1)=w) (λq=>s.length-q.1) [.r 3 rA 1] _ (0,[]) rfl (by simp) (by simp[<-hw]) ?_
 rintro⟨k,out⟩ ⟨hk,hol,hi⟩ N hN;simp only at hk hol hi;have hfl:∀l:List Nat,dJ (l.map rV)=true:=λl=>by induction l<;>simp[dJ,dA, *]
 rcases place s k hk with⟨he,hd⟩|⟨hlt,x,hx,hd⟩<;>rw[hd]at hi
 ·simp[eN,jv]at hi
  subst hi;simp[he,hfl]
 ·have h1:=i5 (x::s.drop (k+1))
  rw[iK]at hi;have hd2:(x::s.drop (k+1)).drop (one (x::s.drop (k+1))).2=s.drop (k+(one (x::s.drop (k+1))).2):=by rw[<-hd,List.drop_drop]
  rw[hd2]at hi;have hle:=h1.2.2.1 (by simp)
  simp only[zAd,List.length_drop]at hle;replace hi:=hid hi
  have hsl:Ef (s.map bV) k s.length=ś ((x::s.drop (k+1)).map bV):=by
   simp only[Ef];rw[if_pos (by simp;omega),<-hd]
   simp;rw[zAi (by simp)]
  simp(disch:=omega) [hsl,-zAj,-Ef];refine aa (WV x (s.drop (k+1))) rfl λ_=>?_;generalize one (x::s.drop (k+1))=o at *;simp(disch:=omega);refine hN.out _<|Nx.mk (k+o.2,out++[o.1]) (by simp) ⟨by simp only;omega,by simp;omega,by simpa using hi.out⟩ (by simp only;omega)
def b8(n:Nat):UInt8:=UInt8.ofNat n
theorem fC{n}(h:n<256):(b8 n).toNat=n:=by simp[b8,Nat.mod_eq_of_lt h]
def eH(r:Nat):Str:=
 let v:=if 1114111<r\/(55296<=r/\r<=57343)then 65533 else r
 if v<128 then[b8 v]
 else if v<2048 then[b8 (192+v/64),b8 (128+v%64)]
 else if v<65536 then[b8 (224+v/4096),b8 (128+v/64%64),b8 (128+v%64)]
 else[b8 (240+v/262144),b8 (128+v/4096%64),b8 (128+v/64%64),b8 (128+v%64)]
theorem LU(r):(eH r).length<=4:=by
 unfold eH;simp only
 repeat' split
 all_goals simp
theorem OP(r:Nat)(h:r<=1114111):Fn ŷ MA [.int .i32 r] (.seq 1 ((eH r).map bV)):=by
 refine yoA Nn ?_;generalize hR:eH r=R;unfold eH at hR;simp only at hR;by_cases hb:1114111<r\/(55296<=r/\r<=57343)
 ·rw[if_pos hb]at hR
  simp(disch:=omega)
  repeat' (first
   |(refine BrKd.mk (λh=>?_) (λh=>?_)<;>simp(disch:=omega) [*])
   |(refine BrK.mk (λh=>?_) (λh=>?_)<;>simp(disch:=omega) [*]))
  all_goals first|omega|(subst hR;rfl)
 ·rw[if_neg hb]at hR
  simp(disch:=omega)
  repeat' (first
   |(refine BrKd.mk (λh=>?_) (λh=>?_)<;>simp(disch:=omega))
   |(refine BrK.mk (λh=>?_) (λh=>?_)<;>simp(disch:=omega) [*]))
  all_goals (subst hR;simp(disch:=omega) [fC])
def jr(l:List Nat):Str:=(l.map eH).flatten
theorem Ph:∀l:List Nat,(jr l).length<=4*l.length
 |[]=>by simp[jr]
 |r::l=>by
   have h1:=LU r;have h2:=Ph l;simp only[jr,zAj,zCj,zBa,zAd]at *;omega
theorem Ch:∀s:Str,ez (s.map bV)=ś s
 |[]=>rfl
 |b::s=>by
   have:=Ch s;simp only[zAj,abg,ez,this,Option.map_some,zDh,zDi,and_true];simp
attribute [simp] Ch
theorem TX(l)(hl:l.length<=1000000)(hr:∀r∈l,r<=1114111):Fn ŷ RJ [.seq 1 (l.map rV)] (.str (jr l)):=by
 refine yoA SF ?_;simp;generalize hw:jr l=w
 refine ah (λ(q:Nat×Str)=>⟨[(0,.seq 1 (l.map rV)),(3,.ref 0 q.2.length),(4,.int .i64 q.1)],[ś (.arr c7 1 (q.2.map bV))]⟩)
  (λq=>q.1<=l.length/\q.2.length<=4*q.1/\q.2++jr (l.drop q.1)=w) (λq=>l.length-q.1) [.r 3 c7 1] _ (0,[]) rfl (by simp) (by simp[<-hw]) ?_
 rintro⟨k,out⟩ ⟨hk,hol,hi⟩ N hN;simp only at hk hol hi;rcases place l k hk with⟨he,hd⟩|⟨hlt,x,hx,hd⟩<;>rw[hd]at hi
 ·simp[jr]at hi
  subst hi;simp[he]
 ·simp only[jr,zAj,zCj]at hi
  have hxl:=LU x;replace hi:=hid hi;simp(disch:=omega) [hx];refine ae (OP x (hr x (zAb hx))) (by simp) λ_=>?_
  simp(disch:=omega);refine hN.out _<|Nx.mk (k+1,out++eH x) (by simp) ⟨by simp only;omega,by simp;omega,by simpa[jr]using hi.out⟩ (by simp only;omega)
def nJ:Option Nat->List Nat->List Nat
 |_,[]=>[]
 |p,r::l=>(if r=10/\p=ś 13 then[]else[if r=13 then 10 else if r=0 then 65533 else r])++nJ (ś r) l
theorem WF:∀(l:List Nat)(p:Option Nat),(nJ p l).length<=l.length
 |[],p=>by simp[nJ]
 |r::l,p=>by
   have:=WF l (ś r);simp only[nJ,zBa,zAd];split<;>simp<;>omega
theorem WE:∀(l:List Nat)(p:Option Nat),(∀r∈l,r<=1114111)->∀r∈nJ p l,r<=1114111
 |[],p,_,r,hr=>by simp[nJ]at hr
 |x::l,p,h,r,hr=>by
   simp only[nJ,zBc]at hr;rcases hr with hr|hr
   ·have:=h x (by simp)
    split at hr
    ·cases hr
    ·simp at hr;subst hr;split<;>(try split)<;>omega
   ·exact WE l _ (λy hy=>h y (by simp[hy])) r hr
def eS(s:Str):Str:=jr (nJ none (eN s))
def t6(l:List Nat)(k:Nat):Option Nat:=if k=0 then none else l[k-1]?
theorem q7(s)(hs:s.length<=1000000):Fn ŷ MC [.seq 1 (s.map bV)] (.str (eS s)):=by
 refine yoA Np ?_;have hrl:=Po s.length s (zBi _);have hrm:=abT s.length s (zBi _);simp;refine fD (OR s hs) λ_=>?_;unfold eS;generalize eN s=l at *;simp;generalize hw:nJ none l=w;have hwm:=WE l none (λr hr=>(hrm r hr).1);rw[hw]at hwm
 refine ah (λ(q:Nat×List Nat)=>⟨[(3,.seq 1 (l.map rV)),(4,.ref 0 q.2.length),(5,.int .i64 q.1)],[ś (.arr rA 1 (q.2.map rV))]⟩)
  (λq=>q.1<=l.length/\q.2.length<=q.1/\q.2++nJ (t6 l q.1) (l.drop q.1)=w) (λq=>l.length-q.1) [.r 4 rA 1] _ (0,[]) rfl (by simp) (by simp[<-hw,t6]) ?_
 rintro⟨k,out⟩ ⟨hk,hol,hi⟩ N hN;simp only at hk hol hi;rcases place l k hk with⟨he,hd⟩|⟨hlt,x,hx,hd⟩<;>rw[hd]at hi
 ·simp[nJ]at hi
  subst hi;simp[he];refine aa (TX out (by omega) hwm) rfl λ_=>?_
  simp
 ·have hp1:t6 l (k+1)=ś x:=by simp[t6,hx]
  simp only[nJ,<-hp1]at hi;have skip:(x=10/\t6 l k=ś 13)->out++nJ (t6 l (k+1)) (l.drop (k+1))=w:=λh=>by rw[if_pos h]at hi;simpa using hi
  have put:¬(x=10/\t6 l k=ś 13)->(out++[if x=13 then 10 else if x=0 then 65533 else x])++nJ (t6 l (k+1)) (l.drop (k+1))=w:=λh=>by rw[if_neg h]at hi;simpa using hi
  clear hi;replace skip:=hid skip
  replace put:=hid put;have hxr:=(hrm x (zAb hx)).1
  have fin:∀τ:St,∀o2:List Nat,τ.nrm [3,4,5]=⟨[(3,.seq 1 (l.map rV)),(4,.ref 0 o2.length),(5,.int .i64 ((k+1:Nat):Int))],[ś (.arr rA 1 (o2.map rV))]⟩->o2.length<=k+1->o2++nJ (t6 l (k+1)) (l.drop (k+1))=w->N τ:=by
   intro τ o2 h1 h2 h3;exact hN.out _<|Nx.mk (k+1,o2) h1 ⟨by simp only;omega,h2,h3⟩ (by simp only;omega)
  by_cases h10:x=10
  ·subst h10
   rcases zBg k with hk0|hk0
   ·subst hk0
    simp(disch:=omega) [hx];exact fin _ (out++[10]) (by simp) (by simp only[zBa,zAd,zBf];omega) (by simpa using put.out (by simp[t6]))
   ·obtain⟨y,hy⟩:=av (l:=l) (k:=k-1) (by omega)
    have hkt:((k:Int)-1).toNat=k-1:=by omega
    simp(disch:=omega) [hx,hy];refine BrKd.mk (λh=>?_) (λh=>?_)
    ·simp(disch:=omega)
     exact fin _ out (by simp) (by omega) (skip.out ⟨rfl,by simp[t6,hy];omega⟩)
    ·simp(disch:=omega)
     exact fin _ (out++[10]) (by simp) (by simp;omega) (by simpa using put.out (by simp[t6,hy];omega))
  ·by_cases h13:x=13
   ·subst h13
    simp(disch:=omega) [hx];exact fin _ (out++[10]) (by simp) (by simp;omega) (by simpa using put.out (by simp))
   ·by_cases h0:x=0
    ·subst h0
     simp(disch:=omega) [hx];exact fin _ (out++[65533]) (by simp) (by simp;omega) (by simpa using put.out (by simp))
    ·simp(disch:=omega) [hx]
     exact fin _ (out++[x]) (by simp) (by simp;omega) (by simpa[h13,h0]using put.out (by simp[h10]))
theorem Bp(s:Str)(hs:s.length<=1000000):Fn ŷ Yw [.str s] (.bool (decide (eS s=s))):=by
 refine yoB YP λho=>?_;simp only[oks,ok,and_true]at ho;simp(disch:=omega);refine aa (by simpa using q7 s hs) rfl λ_=>?_
 simp
def yV(s:Str):Str:=s.take 30
theorem ql(s:Str):Fn ŷ Vp [.str s] (.str (yV s)):=by
 refine yoB VW λho=>?_;simp only[oks,ok,and_true]at ho;simp[yV];refine BrKd.mk (λh=>?_) (λh=>?_)
 ·simp(disch:=omega)
 ·simp
  rw[zAi (by omega)]
def acU(a:Attr):Attr:=⟨yV a.name,yV a.value⟩
mutual
def agf:Node->Nat->List Node×Nat
 |⟨_,_,_,_,ks⟩,m=>fA ks m
def fA:List Node->Nat->List Node×Nat
 |[],m=>([],m)
 |n::l,m=>if m=0 then([],0)else
   (⟨n.kind,yV n.name,(n.attrs.take 5).map acU,yV n.text,(agf n (m-1)).1⟩::(fA l (agf n (m-1)).2).1,(fA l (agf n (m-1)).2).2)
end
theorem Iu(n)(m):agf n m=fA n.kids m:=by cases n;simp[agf]
theorem Lv:∀(l:List Node)(m:Nat),aK (fA l m).1+(fA l m).2<=m:=by
 refine aE (λm=>by simp[fA,aK]) ?_
 intro n l h1 h2 m;simp only[fA,Iu];split
 ·simp[aK]
 ·have g1:=h1 (m-1)
  have g2:=h2 (fA n.kids (m-1)).2;simp only[aK,ZV];omega
theorem tI:∀l:List Node,l.length<=aK l
 |[]=>by simp
 |n::l=>by have:=tI l;simp[aK,qn];omega
theorem WU:∀(l:List Node)(m:Nat),m<=1000->Fn ŷ p7 [.seq 5 (l.map Node.v),.int .i64 m] (.tup [.seq 5 ((fA l m).1.map Node.v),.int .i64 (fA l m).2]):=by
 have key:∀l:List Node,(∀n∈l,∀m:Nat,m<=1000->Fn ŷ p7 [.seq 5 (n.kids.map Node.v),.int .i64 m] (.tup [.seq 5 ((fA n.kids m).1.map Node.v),.int .i64 (fA n.kids m).2]))->
  ∀m:Nat,m<=1000->Fn ŷ p7 [.seq 5 (l.map Node.v),.int .i64 m] (.tup [.seq 5 ((fA l m).1.map Node.v),.int .i64 (fA l m).2]):=by
  intro l hrec m hm;refine yoB V0 λho=>?_;simp only[oks,ok,and_true]at ho;have hlen:l.length<=140737488355328:=by have:=ho.1;simp at this;exact this.1
  clear ho;simp;generalize hR:fA l m=R
  refine ah (λ(q:Nat×Nat×List Node)=>⟨[(0,.seq 5 (l.map Node.v)),(1,.int .i64 q.2.1),(6,.ref 0 q.2.2.length),(7,.int .i64 q.1)],[ś (.arr aL 5 (q.2.2.map Node.v))]⟩)
   (λq=>q.1<=l.length/\q.2.2.length+q.2.1<=1000/\(q.2.2++(fA (l.drop q.1) q.2.1).1,(fA (l.drop q.1) q.2.1).2)=R) (λq=>l.length-q.1) [.r 6 aL 5] _ (0,m,[]) rfl (by simp) (by simp[hR];omega) ?_
  rintro⟨k,m,out⟩ ⟨hk,hol,hi⟩ N hN;simp only at hk hol hi;rcases place l k hk with⟨he,hd⟩|⟨hlt,x,hx,hd⟩<;>rw[hd]at hi
  ·simp[fA]at hi
   subst hi;simp[he]
  ·simp only[fA,Iu]at hi
   rcases zBg m with hm0|hm0
   ·subst hm0
    simp at hi;subst hi;simp(disch:=omega)
   ·rw[if_neg (by omega)]at hi
    have hxc:=Lv x.kids (m-1);replace hi:=hid hi;simp(disch:=omega) [hx];refine aa (ql _) rfl λ_=>?_;simp;refine aa (ql _) rfl λ_=>?_;simp;have hm1:((m:Int)-1)=((m-1:Nat):Int):=by omega
    rw[hm1];refine ae (hrec x (zAb hx) (m-1) (by omega)) (by simp) λ_=>?_
    generalize fA x.kids (m-1)=ck at *;simp;have hl5:(zAc 5 x.attrs).length=min 5 x.attrs.length:=zAe
    refine ah (λ(q:Nat)=>⟨[(0,.seq 5 (l.map Node.v)),(1,.int .i64 ck.2),(6,.ref 0 out.length),(7,.int .i64 k),(8,.ptr 1 0),(9,.ref 2 ((x.attrs.take 5).take q).length),(10,.int .i64 q)],
     [ś (.arr aL 5 (out.map Node.v)),ś (.box [.int .i64 x.kind,.str (yV x.name),.seq 2 (x.attrs.map Attr.v),.str (yV x.text),.seq 5 (ck.1.map Node.v)]),ś (.arr bW 2 ((((x.attrs.take 5).take q).map acU).map Attr.v))]⟩)
     (λq=>q<=(x.attrs.take 5).length) (λq=>(x.attrs.take 5).length-q) [.r 9 bW 2] _ 0 rfl (by simp) (by simp) ?_
    rintro j hj N2 hN2;have hjl:((x.attrs.take 5).take j).length=j:=by rw[zAe];omega
    rcases place (x.attrs.take 5) j hj with⟨he2,hd2⟩|⟨hlt2,y,hy,hd2⟩
    ·have htk:(x.attrs.take 5).take j=x.attrs.take 5:=zAi (by omega)
     rw[htk]at hjl⊢;have hjj:(j<x.attrs.length/\j=5)\/j=x.attrs.length:=by omega
     rcases hjj with hjj|hjj
     all_goals
      simp(disch:=omega) [hjj];refine hN.out _<|Nx.mk (k+1,ck.2,out++[⟨x.kind,yV x.name,(x.attrs.take 5).map acU,yV x.text,ck.1⟩]) (by simp) ⟨by simp only;omega,by simp;omega,by simpa using hi.out⟩ (by simp only;omega)
    ·have hy2:x.attrs[j]?=ś y:=by rw[zAf]at hy;simpa[show j<5 by omega]using hy
     rw[hjl];simp(disch:=omega) [hy2];refine aw (ql _) rfl ?_;simp[hy2];refine aw (ql _) rfl ?_;simp(disch:=omega);refine hN2.out _<|Nx.mk (j+1) ?_ (by omega) (by omega)
     have hjl2:((x.attrs.take 5).take (j+1)).length=j+1:=by rw[zAe];omega
     rw[hjl2,bk hy];simp[acU]
 have all:∀l:List Node,∀n∈l,∀m:Nat,m<=1000->Fn ŷ p7 [.seq 5 (n.kids.map Node.v),.int .i64 m] (.tup [.seq 5 ((fA n.kids m).1.map Node.v),.int .i64 (fA n.kids m).2]):=by
  refine aE (λx hx=>by cases hx) ?_
  intro n l h1 h2 x hx;rcases zAh.1 hx with rfl|hx
  ·exact key _ h1
  ·exact h2 x hx
 exact λl=>key l (all l)
theorem WT(l):Fn ŷ Vr [.seq 5 (l.map Node.v)] (.seq 5 ((fA l 40).1.map Node.v)):=by
 refine yoA VZ ?_;simp;refine ae (WU l 40 (by omega)) (by simp) λ_=>?_
 simp
def aaE:List Str:=[[97],[98],[112],[117,108],[108,105],[98,114],[105,109,103],[100,105,118],[115,99,114,105,112,116],[120,45,121]]
def D6(s:Str):Str:=if named s then s else(aaE[sumB s%10]?).getD []
theorem TV(s:Str)(hs:s.length<=1000000):Fn ŷ RG [.str s] (.str (D6 s)):=by
 refine yoA SA ?_;simp
 refine ah (λ(p:Nat×Nat)=>⟨[(0,.str s),(3,.seq 1 (aaE.map .str)),(4,.int .i64 p.2),(5,.int .i64 p.1)],[]⟩)
  (λp=>p.1<=s.length/\p.2<=255*p.1/\p.2+sumB (s.drop p.1)=sumB s) (λp=>s.length-p.1) [] _ (0,0) rfl (by simp[aaE]) (by simp) ?_
 rintro⟨k,n⟩ ⟨hk,hn,hi⟩ N hN;simp only at hk hn hi;rcases place s k hk with⟨he,hd⟩|⟨hlt,x,hx,hd⟩<;>rw[hd,sumB]at hi
 ·have hm:n%10<10:=zDc _ (by decide)
  have ht:((n:Int)%10).toNat=n%10:=by omega
  obtain⟨y,hy⟩:=av (l:=aaE) (k:=n%10) hm;have hpl:aaE.length=10:=rfl;simp only[zDf]at hi;simp[he];refine aa (lF s) rfl λ_=>?_;simp;refine BrK.mk (λh=>?_) (λh=>?_)
  ·simp
   simp[D6,h]
  ·simp(disch:=omega) [hpl,ht,hy]
   simp[D6,h,<-hi,hy]
 ·have hx8:=x.toNat_lt
  simp(disch:=omega) [hx];refine hN.out _<|Nx.mk (k+1,n+x.toNat) (by simp) ⟨by simp only;omega,by simp only;omega,by simp only;omega⟩ (by simp only;omega)
def lx(b:UInt8):Bool:=(decide (65<=b.toNat)&&decide (b.toNat<=90))||(decide (b.toNat=9)||(decide (b.toNat=10)||(decide (b.toNat=12)||(decide (b.toNat=32)||(decide (b.toNat=47)||(decide (b.toNat=62)||decide (b.toNat=61)))))))
def gC(s:Str):Bool:=s.all (λb=>!lx b)&&(decide (eS s=s)&&decide (0<s.length))
theorem pi(s:Str)(hs:s.length<=1000000):Fn ŷ AN [.str s] (.bool (gC s)):=by
 refine yoA AZ ?_;simp;refine aa (Bp s hs) rfl λ_=>?_;simp;generalize hr:gC s=r;refine ah (λk:Nat=>⟨[(0,.str s),(3,.bool (decide (eS s=s))),(4,.int .i64 k)],[]⟩) (λk=>k<=s.length/\((s.drop k).all (λb=>!lx b)&&(decide (eS s=s)&&decide (0<s.length)))=r) (λk=>s.length-k) [] _ 0 rfl (by simp) (by simp[<-hr,gC]) ?_
 rintro k ⟨hk,hi⟩ N hN;rcases place s k hk with⟨he,hd⟩|⟨hlt,x,hx,hd⟩<;>rw[hd]at hi<;>replace hi:=hid hi
 ·have hi:=hi.out
  simp[he]
  repeat' (first|(refine BrKd.mk (λh=>?_) (λh=>?_)<;>simp[*])|(refine BrK.mk (λh=>?_) (λh=>?_)<;>simp(disch:=omega) [*]))
  all_goals (first|simpa[*]using hi|(simp[*]at hi;simp[<-hi, *]))
 ·simp only[zBe]at hi
  have no:lx x=ť->r=false:=λh=>by have hi:=hi.out;simpa[h]using hi.symm
  have go:lx x=ğ->((s.drop (k+1)).all (λb=>!lx b)&&(decide (eS s=s)&&decide (0<s.length)))=r:=λh=>by have hi:=hi.out;rw[h]at hi;simpa using hi
  replace no:=hid no;replace go:=hid go;simp(disch:=omega) [hx]
  repeat' (first|(refine BrKd.mk (λh=>?_) (λh=>?_)<;>simp(disch:=omega) [*])|(refine BrK.mk (λh=>?_) (λh=>?_)<;>simp(disch:=omega) [*]))
  all_goals first
   |(refine hN.out _<|Nx.mk (k+1) (by simp) ⟨by omega,go.out ?_⟩ (by omega);simp[lx, *];done)
   |(refine hN.out _<|Nx.mk (k+1) (by simp) ⟨by omega,go.out ?_⟩ (by omega);unfold lx;simp;omega)
   |(rw[no.out ?_];simp[lx, *];done)
   |(refine(no.out ?_);simp[lx, *];done)
   |(refine(no.out ?_).symm;simp[lx, *];done)
def ae3:List Str:=[[105,100],[104,114,101,102],[116,105,116,108,101],[100,97,116,97,45,97],[111,110,99,108,105,99,107]]
def cJ(s:Str):Str:=if gC s then s else(ae3[s.length%5]?).getD []
theorem Da(s:Str)(hs:s.length<=1000000):Fn ŷ Cm [.str s] (.str (cJ s)):=by
 refine yoA CH ?_;simp;refine aa (pi s hs) rfl λ_=>?_;simp;have hm:s.length%5<5:=zDc _ (by decide)
 have ht:((s.length:Int)%5).toNat=s.length%5:=by omega
 obtain⟨y,hy⟩:=av (l:=ae3) (k:=s.length%5) hm
 have hy2:([.str [105,100],.str [104,114,101,102],.str [116,105,116,108,101],.str [100,97,116,97,45,97],.str [111,110,99,108,105,99,107]]:List V)[s.length%5]?=ś (.str y):=by
  have:(ae3.map V.str)[s.length%5]?=ś (.str y):=by rw[zBj,hy];rfl
  exact this
 refine BrK.mk (λh=>?_) (λh=>?_)
 ·simp
  simp[cJ,h]
 ·simp(disch:=omega) [ht,hy2]
  simp[cJ,h,hy]
def cE:List Node->List Node->List Node
 |out,[]=>out
 |out,n::l=>
   if n.kind=2/\n.text=[]then cE out l
   else match out[out.length-1]? with
    |some o=>if n.kind=2/\o.kind=2 then cE (out.set (out.length-1) ⟨o.kind,o.name,o.attrs,o.text++n.text,o.kids⟩) l else cE (out++[n]) l
    |none=>cE (out++[n]) l
def dt(l:List Node):List Node:=cE [] l
theorem zC(l)(hl:l.length<=1000000)(ht:∀n∈l,n.text.length<=1000000):Fn ŷ Mz [.seq 5 (l.map Node.v)] (.seq 5 ((dt l).map Node.v)):=by
 refine yoA Nm ?_;simp;generalize hw:dt l=w
 refine ah (λ(q:Nat×List Node)=>⟨[(0,.seq 5 (l.map Node.v)),(3,.ref 0 q.2.length),(4,.int .i64 q.1)],[ś (.arr aL 5 (q.2.map Node.v))]⟩)
  (λq=>q.1<=l.length/\q.2.length<=q.1/\(∀n∈q.2,n.text.length<=1000000*q.1)/\cE q.2 (l.drop q.1)=w) (λq=>l.length-q.1) [.r 3 aL 5] _ (0,[]) rfl (by simp) (by simp[<-hw,dt]) ?_
 rintro⟨k,out⟩ ⟨hk,hol,htx,hi⟩ N hN;simp only at hk hol htx hi;rcases place l k hk with⟨he,hd⟩|⟨hlt,x,hx,hd⟩<;>rw[hd]at hi
 ·simp[cE]at hi
  subst hi;simp[he]
 ·have hxt:=ht x (zAb hx)
  simp only[cE]at hi;by_cases h2:x.kind=2
  ·by_cases ht0:x.text=[]
   ·rw[if_pos ⟨h2,ht0⟩]at hi
    replace hi:=hid hi;simp(disch:=omega) [hx];refine hN.out _<|Nx.mk (k+1,out) (by simp) ⟨by simp only;omega,by simp only;omega,λn hn=>by have:=htx n hn;simp only;omega,hi.out⟩ (by simp only;omega)
   ·rw[if_neg (λh=>ht0 h.2)]at hi
    rcases zBg out.length with h0|h0
    ·have ho0:out=[]:=zAg h0
     subst ho0;simp only[List.getElem?_nil,List.nil_append]at hi;replace hi:=hid hi;simp(disch:=omega) [hx,h2];refine hN.out _<|Nx.mk (k+1,[x]) (by simp[h2]) ⟨by simp only;omega,by simp,λn hn=>by simp at hn;subst hn;simp only;omega,hi.out⟩ (by simp only;omega)
    ·obtain⟨o,ho⟩:=av (l:=out) (k:=out.length-1) (by omega)
     rw[ho]at hi;simp only at hi;have hot:=htx o (zAb ho);have hoz:((out.length:Int)-1).toNat=out.length-1:=by omega
     replace hi:=hid hi;simp(disch:=omega) [hx,ho];refine BrKd.mk (λhk2=>?_) (λhk2=>?_)
     ·simp(disch:=omega) [hx,ho,hk2]
      have hi:=hi.out;rw[if_pos ⟨h2,hk2⟩]at hi;refine hN.out _<|Nx.mk (k+1,out.set (out.length-1) ⟨o.kind,o.name,o.attrs,o.text++x.text,o.kids⟩) (by simp[hk2]) ⟨by simp only;omega,by simp;omega,?_,hi⟩ (by simp only;omega)
      intro n hn;rcases zCa hn with hn|rfl
      ·have:=htx n hn;simp only;omega
      ·simp only[zBa];omega
     ·simp(disch:=omega) [hx,h2]
      have hi:=hi.out;rw[if_neg (λh=>hk2 h.2)]at hi;refine hN.out _<|Nx.mk (k+1,out++[x]) (by simp[h2]) ⟨by simp only;omega,by simp;omega,?_,hi⟩ (by simp only;omega)
      intro n hn;simp only[zBc,zCf]at hn;rcases hn with hn|rfl
      ·have:=htx n hn;simp only;omega
      ·simp only;omega
  ·rw[if_neg (λh=>h2 h.1)]at hi
   have hi2:cE (out++[x]) (l.drop (k+1))=w:=by
    split at hi
    ·rw[if_neg (λh=>h2 h.1)]at hi;exact hi
    ·exact hi
   clear hi;replace hi2:=hid hi2;simp(disch:=omega) [hx];refine hN.out _<|Nx.mk (k+1,out++[x]) (by simp) ⟨by simp only;omega,by simp;omega,?_,hi2.out⟩ (by simp only;omega)
   intro n hn;simp only[zBc,zCf]at hn;rcases hn with hn|rfl
   ·have:=htx n hn;simp only;omega
   ·simp only;omega
end Go.Abs.F
end
section
set_option maxHeartbeats 4000000
set_option maxRecDepth 100000
namespace Go.Abs.F
open Go.Proofs
attribute [-simp] getElem?_pos zCi List.map_map
def ug(k:Int):Int:=if k<1\/3<k then 1 else k
def ku:List Attr->List Attr->List Attr
 |acc,[]=>acc
 |acc,a::l=>ku (if(fT acc (cJ a.name)).isSome then acc else acc++[⟨cJ a.name,eS a.value⟩]) l
mutual
def dG:Node->Node
 |⟨k,nm,a,t,ks⟩=>if ug k=1 then⟨1,D6 nm,ku [] a,[],dt (KQ ks)⟩else⟨ug k,[],[],eS t,[]⟩
def KQ:List Node->List Node
 |[]=>[]
 |n::l=>dG n::KQ l
end
theorem KP:∀l:List Node,KQ l=l.map dG
 |[]=>by simp[KQ]
 |n::l=>by simp[KQ,KP l]
theorem l9(n):dG n=if ug n.kind=1 then⟨1,D6 n.name,ku [] n.attrs,[],dt (n.kids.map dG)⟩else⟨ug n.kind,[],[],eS n.text,[]⟩:=by
 cases n;simp[dG,KP]
def Qr(n:Node):Prop:=n.name.length<=1000/\n.text.length<=1000/\n.attrs.length<=1000/\∀a∈n.attrs,a.name.length<=1000/\a.value.length<=1000
theorem AG(s):(eS s).length<=4*s.length:=by
 have h1:=Ph (nJ none (eN s));have h2:=WF (eN s) none;have h3:=Po s.length s (zBi _);unfold eS;omega
theorem Y6(n)(h:Qr n):(dG n).text.length<=4000:=by
 rw[l9];split
 ·simp
 ·have:=AG n.text;have:=h.2.1;simp only;omega
theorem TW:∀(l:List Node),aq Qr l->aK l<=1000->Fn ŷ nk [.seq 5 (l.map Node.v)] (.seq 5 ((dt (l.map dG)).map Node.v)):=by
 have key:∀l:List Node,(∀n∈l,aq Qr n.kids->aK n.kids<=1000->Fn ŷ nk [.seq 5 (n.kids.map Node.v)] (.seq 5 ((dt (n.kids.map dG)).map Node.v)))->
  aq Qr l->aK l<=1000->Fn ŷ nk [.seq 5 (l.map Node.v)] (.seq 5 ((dt (l.map dG)).map Node.v)):=by
  intro l hrec hfi hc;refine yoA SB ?_;have hlen:=tI l;simp
  refine ah (λ(k:Nat)=>⟨[(0,.seq 5 (l.map Node.v)),(3,.ref 0 k),(4,.int .i64 k)],[ś (.arr aL 5 (((l.take k).map dG).map Node.v))]⟩)
   (λk=>k<=l.length) (λk=>l.length-k) [.r 3 aL 5] _ 0 rfl (by simp) (by simp) ?_
  rintro k hk N hN;have hkl:(l.take k).length=k:=by rw[zAe];omega
  rcases place l k hk with⟨he,hd⟩|⟨hlt,x,hx,hd⟩
  ·have htk:l.take k=l:=zAi (by omega)
   rw[htk];simp[he];refine dC (zC (l.map dG) (by simp;omega) (λn hn=>?_)) λ_=>?_
   ·obtain⟨y,hy,rfl⟩:=zCg.1 hn
    have:=Y6 y (dB hfi hy).1;omega
   ·simp
  ·have hxm:=zAb hx
   obtain⟨hfx,hfk⟩:=dB hfi hxm;obtain⟨hx1,hx2,hx3,hx4⟩:=hfx;have hcx:=Uj hxm
   have fin:∀τ:St,τ.nrm [0,3,4]=⟨[(0,.seq 5 (l.map Node.v)),(3,.ref 0 (k+1)),(4,.int .i64 ((k+1:Nat):Int))],[ś (.arr aL 5 (((l.take k).map dG).map Node.v++[(dG x).v]))]⟩->N τ:=by
    intro τ h;refine hN.out _<|Nx.mk (k+1) ?_ (by omega) (by omega)
    rw[h,bk hx];simp
   have hkind:x.kind<1\/3<x.kind\/x.kind=1\/x.kind=2\/x.kind=3:=by omega
   rcases hkind with h|h|h|h|h
   case inr.inr.inr.inr.inl|inr.inr.inr.inr.inr=>
    have hg:dG x=⟨x.kind,[],[],eS x.text,[]⟩:=by
     rw[l9,h];simp[ug]
    simp(disch:=omega) [hx,h];refine aa (by simpa using q7 x.text (by omega)) rfl λ_=>?_
    simp(disch:=omega);refine fin _ ?_;rw[hg,h];simp
   all_goals
    have hg:dG x=⟨1,D6 x.name,ku [] x.attrs,[],dt (x.kids.map dG)⟩:=by
     rw[l9,if_pos];unfold ug;split<;>omega
    simp(disch:=omega) [hx,h];refine aa (TV x.name (by omega)) rfl λ_=>?_
    simp;generalize hga:ku [] x.attrs=GA at hg
    refine ah (λ(q:Nat×List Attr)=>⟨[(0,.seq 5 (l.map Node.v)),(3,.ref 0 k),(4,.int .i64 k),(5,.ptr 1 0),(6,.int .i64 q.1)],
     [ś (.arr aL 5 (((l.take k).map dG).map Node.v)),ś (.box [.int .i64 1,.str (D6 x.name),.ref 2 q.2.length,.str [],.nil 5]),ś (.arr bW 2 (q.2.map Attr.v))]⟩)
     (λq=>q.1<=x.attrs.length/\q.2.length<=q.1/\ku q.2 (x.attrs.drop q.1)=GA) (λq=>x.attrs.length-q.1) [.b 1 2 bW 2] _ (0,[]) rfl (by simp) (by simp[hga]) ?_
    rintro⟨j,acc⟩ ⟨hj,hal,hi⟩ N2 hN2;simp only at hj hal hi;rcases place x.attrs j hj with⟨he2,hd2⟩|⟨hlt2,y,hy,hd2⟩<;>rw[hd2]at hi
    ·simp only[ku]at hi
     subst hi;simp[hx,he2];refine ae (hrec x hxm hfk (by omega)) (by simp) λ_=>?_
     simp(disch:=omega);refine fin _ ?_;rw[hg];simp
    ·obtain⟨hy1,hy2⟩:=hx4 y (zAb hy)
     simp only[ku]at hi;replace hi:=hid hi;simp(disch:=omega) [hx,hy];refine aw (Da y.name (by omega)) rfl ?_
     simp(disch:=omega) [hx,hy];refine aw (by simpa using q7 y.value (by omega)) rfl ?_
     simp;refine aa (by simpa using zB ⟨1,D6 x.name,acc,[],[]⟩ (cJ y.name)) rfl λ_=>?_
     simp;refine BrK.mk (λhb=>?_) (λhb=>?_)
     ·simp(disch:=omega)
      have hi:=hi.out;rw[if_pos hb]at hi;refine hN2.out _<|Nx.mk (j+1,acc) (by simp) ⟨by simp only;omega,by simp only;omega,hi⟩ (by simp only;omega)
     ·simp(disch:=omega)
      have hi:=hi.out;rw[if_neg (by simp[hb])]at hi
      refine hN2.out _<|Nx.mk (j+1,acc++[⟨cJ y.name,eS y.value⟩]) (by simp) ⟨by simp only;omega,by simp;omega,hi⟩ (by simp only;omega)
 have all:∀l:List Node,∀n∈l,aq Qr n.kids->aK n.kids<=1000->Fn ŷ nk [.seq 5 (n.kids.map Node.v)] (.seq 5 ((dt (n.kids.map dG)).map Node.v)):=by
  refine aE (λx hx=>by cases hx) ?_
  intro n l h1 h2 x hx;rcases zAh.1 hx with rfl|hx
  ·exact key _ h1
  ·exact h2 x hx
 exact λl=>key l (all l)
theorem adh:∀(l:List Node)(m:Nat),aq Qr (fA l m).1:=by
 refine aE (λm=>by simp[fA,aq]) ?_
 intro n l h1 h2 m;simp only[fA,Iu];split
 ·simp[aq]
 ·simp only[aq,aae]
  refine⟨⟨⟨by simp[yV];omega,by simp[yV];omega,by simp;omega,λa ha=>?_⟩,h1 _⟩,h2 _⟩
  simp only[zCg]at ha;obtain⟨b,_,rfl⟩:=ha;simp[acU,yV];omega
def bI(l:List Node):List Node:=dt ((fA l 40).1.map dG)
theorem Dd(l):Fn ŷ RI [.seq 5 (l.map Node.v)] (.seq 5 ((bI l).map Node.v)):=by
 refine yoA SE ?_;simp;refine ae (WT l) (by simp) λ_=>?_
 simp;refine ae (TW (fA l 40).1 (adh l 40) (by have:=Lv l 40;omega)) (by simp) λ_=>?_
 simp[bI]
def bB(w:Str):Str->Bool
 |[]=>dH [] w
 |b::t=>dH (b::t) w||bB w t
theorem Kl(w):∀s:Str,s.length<w.length->bB w s=ğ
 |[],h=>by simp[bB,dH];intro h';subst h';simp at h
 |b::t,h=>by
   have:=Kl w t (by simp at h;omega)
   simp only[bB,this,Bool.or_false,dH,Bool.and_eq_false_iff,decide_eq_false_iff_not];left;omega
theorem acI(w)(s)(h:w.length<=s.length):bB w s=(decide (s.take w.length=w)||(if s=[]then ğ else bB w s.tail)):=by
 cases s with
 |nil=>have:w=[]:=zAg (by simpa using h);subst this;simp[bB,dH]
 |cons b t=>
   simp only[zAd]at h;simp[bB,dH,decide_eq_true h]
theorem Gy(s w:Str)(hw0:0<w.length)(hs:s.length<=1000000000)(hwl:w.length<=1000000000):Fn ŷ Vo [.str s,.str w] (.bool (bB w s)):=by
 refine yoA VT ?_;simp;generalize hr:bB w s=r;refine ah (λk:Nat=>⟨[(0,.str s),(1,.str w),(5,.int .i64 k)],[]⟩) (λk=>k<=s.length/\bB w (s.drop k)=r) (λk=>s.length-k) [] _ 0 rfl (by simp) (by simp[hr]) ?_
 rintro k ⟨hk,hi⟩ N hN;by_cases hlt:k+w.length<=s.length
 ·rw[acI w _ (by simp;omega),if_neg (by simp;omega),List.tail_drop]at hi
  replace hi:=hid hi;have e:((k:Int)+(w.length:Int)).toNat-k=w.length:=by omega
  simp(disch:=omega) [e];refine BrKd.mk (λh=>?_) (λh=>?_)
  ·simp
   have hi:=hi.out;simpa[h]using hi
  ·simp(disch:=omega)
   have hi:=hi.out;refine hN.out _<|Nx.mk (k+1) (by simp) ⟨by omega,by simpa[h]using hi⟩ (by omega)
 ·rw[Kl w _ (by simp;omega)]at hi
  subst hi;simp(disch:=omega)
def wS(b:UInt8):UInt8:=if 65<=b.toNat/\b.toNat<=90 then b8 (b.toNat+32)else b
theorem TY(s:Str)(hs:s.length<=1000000000):Fn ŷ RK [.str s] (.str (s.map wS)):=by
 refine yoA SG ?_;simp
 refine ah (λ(k:Nat)=>⟨[(0,.str s),(3,.ref 0 k),(4,.int .i64 k)],[ś (.arr c7 1 (((s.take k).map wS).map bV))]⟩)
  (λk=>k<=s.length) (λk=>s.length-k) [.r 3 c7 1] _ 0 rfl (by simp) (by simp) ?_
 rintro k hk N hN;have hkl:(s.take k).length=k:=by rw[zAe];omega
 rcases place s k hk with⟨he,hd⟩|⟨hlt,x,hx,hd⟩
 ·have htk:s.take k=s:=zAi (by omega)
  rw[htk];simp[he]
 ·simp(disch:=omega) [hx]
  have fin:∀τ:St,τ.nrm [0,3,4]=⟨[(0,.str s),(3,.ref 0 (k+1)),(4,.int .i64 ((k+1:Nat):Int))],[ś (.arr c7 1 (((s.take k).map wS).map bV++[bV (wS x)]))]⟩->N τ:=by
   intro τ h;refine hN.out _<|Nx.mk (k+1) ?_ (by omega) (by omega)
   rw[h,bk hx];simp
  repeat' (first
   |(refine BrKd.mk (λh=>?_) (λh=>?_)<;>simp(disch:=omega) [hkl, *])
   |(refine BrK.mk (λh=>?_) (λh=>?_)<;>simp(disch:=omega) [hkl, *]))
  all_goals
   first
   |(have hf:wS x=b8 (x.toNat+32):=by rw[wS,if_pos (by omega)])
   |(have hf:wS x=x:=by rw[wS,if_neg (by omega)])
   refine fin _ ?_;rw[hf];simp(disch:=omega) [fC]
def agy(b:UInt8):Bool:=decide (b.toNat=9)||(decide (b.toNat=10)||(decide (b.toNat=12)||decide (b.toNat=32)))
theorem OO(b):Fn ŷ Mu [.int .u8 b.toNat] (.bool (agy b)):=by
 refine yoA Ni ?_;simp[agy]
 repeat' (first|(refine BrKd.mk (λh=>?_) (λh=>?_)<;>simp[*])|(refine BrK.mk (λh=>?_) (λh=>?_)<;>simp(disch:=omega) [*]))
def ZO(b:UInt8):Bool:=agy b||(decide (b.toNat=47)||decide (b.toNat=62))
def aa8(nm:Str)(s:Str):Bool:=decide ((s.take (2+nm.length)).map wS=[60,47]++nm)&&(match s[2+nm.length]? with
 |some c=>ZO c
 |none=>ğ)
def Bv(nm:Str):Nat->Str->Int
 |_,[]=>-1
 |i,b::t=>if aa8 nm (b::t)then i else Bv nm (i+1) t
def ends(s nm:Str):Int:=Bv nm 0 s
theorem Dm(nm):∀(s:Str)(i:Nat),s.length<=2+nm.length->Bv nm i s=-1
 |[],i,h=>rfl
 |b::t,i,h=>by
   have:=Dm nm t (i+1) (by simp at h;omega)
   simp only[Bv,this];rw[if_neg];simp only[aa8,Bool.and_eq_true,not_and,zDa];intro _;rw[List.getElem?_eq_none (by omega)]
theorem TU(s nm:Str)(hs:s.length<=1000000000)(hn:nm.length<=1000000):Fn ŷ RF [.str s,.str nm] (.int .i64 (ends s nm)):=by
 refine yoA Sz ?_;simp(disch:=omega);generalize hr:ends s nm=r;refine ah (λk:Nat=>⟨[(0,.str s),(1,.str nm),(5,.int .i64 (2+nm.length)),(6,.int .i64 k)],[]⟩) (λk=>k<=s.length/\Bv nm k (s.drop k)=r) (λk=>s.length-k) [] _ 0 rfl (by simp) (by simp[<-hr,ends]) ?_
 rintro k ⟨hk,hi⟩ N hN;by_cases hlt:k+(2+nm.length)<s.length
 ·obtain⟨x,hx⟩:=av (l:=s) (k:=k) (by omega)
  obtain⟨c,hc⟩:=av (l:=s) (k:=k+(2+nm.length)) hlt;have hd:=r5 hx
  have hat:aa8 nm (s.drop k)=(decide (((s.drop k).take (2+nm.length)).map wS=[60,47]++nm)&&ZO c):=by
   simp only[aa8,List.getElem?_drop,hc]
  rw[hd]at hi;simp only[Bv]at hi;rw[<-hd,hat]at hi;replace hi:=hid hi;have hkt:((k:Int)+(2+(nm.length:Int))).toNat=k+(2+nm.length):=by omega
  simp(disch:=omega) [hkt,hc];have hlb:((s.drop k).take (2+nm.length)).length<=1000000000:=by simp;omega
  refine aa (TY _ hlb) rfl λ_=>?_;generalize hT:((s.drop k).take (2+nm.length)).map wS=T at hi;have no:(decide (T=[60,47]++nm)&&ZO c)=ğ->Bv nm (k+1) (s.drop (k+1))=r:=λh=>by have hi:=hi.out;rw[if_neg (by rw[h];exact Bool.false_ne_true)]at hi;exact hi
  have yes:(decide (T=[60,47]++nm)&&ZO c)=ť->r=k:=λh=>by have hi:=hi.out;rw[if_pos h]at hi;exact hi.symm
  replace no:=hid no;replace yes:=hid yes;simp(disch:=omega)
  repeat' (first
   |(refine BrKd.mk (λh=>?_) (λh=>?_)<;>simp(disch:=omega) [*])
   |(refine BrK.mk (λh=>?_) (λh=>?_)<;>simp[*])
   |(refine aa (OO _) rfl (λ_=>?_)<;>simp))
  all_goals first
   |(refine hN.out _<|Nx.mk (k+1) (by simp) ⟨by omega,no.out ?_⟩ (by omega);simp_all[ZO];done)
   |(rw[yes.out ?_];simp_all[ZO];done)
   |(refine(yes.out ?_).symm;simp_all[ZO];done)
 ·rw[Dm nm _ _ (by simp;omega)]at hi
  subst hi;simp(disch:=omega)
def iv(par:Str)(n:Node):Bool:=
 if XL par then ğ
 else if raw par then decide (n.kind=2)&&decide (ends (n.text++[60,47]++par++[62]) par=n.text.length)
 else !decide (n.kind=1)|| !Fw par n.name
theorem C9(par:Str)(n)(hp:par.length<=1000000)(ht:n.text.length<=100000000):Fn ŷ RE [.str par,n.v] (.bool (iv par n)):=by
 refine yoA Sy ?_;simp[iv];refine aa (Db _) rfl λ_=>?_;simp;refine aa (Gz _) rfl λ_=>?_;simp;refine BrK.mk (λhv=>?_) (λhv=>?_)
 ·simp[hv]
 ·simp[hv]
  refine BrK.mk (λhr=>?_) (λhr=>?_)
  ·simp[hr]
   refine BrKd.mk (λhk=>?_) (λhk=>?_)
   ·simp(disch:=omega) [hk]
    have e:n.text++[60,47]++par++[62]=n.text++60::47::(par++[62]):=by simp
    have hE:=TU (n.text++[60,47]++par++[62]) par (by simp;omega) hp
    rw[e]at hE;refine aw hE rfl ?_;simp
   ·simp[hk]
  ·simp[hr]
   refine aa (w6 _ _) rfl λ_=>?_;simp
   repeat' (first|(refine BrKd.mk (λh=>?_) (λh=>?_)<;>simp[*])|(refine BrK.mk (λh=>?_) (λh=>?_)<;>simp(disch:=omega) [*]))
def aD(par:Str)(l:List Node):List Node:=l.filter (iv par)
theorem uv(par:Str)(l)(hp:par.length<=1000000)(hl:l.length<=1000000)(ht:∀n∈l,n.text.length<=100000000):
 Fn ŷ Ha [.str par,.seq 5 (l.map Node.v)] (.seq 5 ((aD par l).map Node.v)):=by
 refine yoA Hp ?_;simp;generalize hw:aD par l=w
 refine ah (λ(q:Nat×List Node)=>⟨[(0,.str par),(1,.seq 5 (l.map Node.v)),(5,.ref 0 q.2.length),(6,.int .i64 q.1)],[ś (.arr aL 5 (q.2.map Node.v))]⟩)
  (λq=>q.1<=l.length/\q.2.length<=q.1/\q.2++aD par (l.drop q.1)=w) (λq=>l.length-q.1) [.r 5 aL 5] _ (0,[]) rfl (by simp) (by simp[<-hw]) ?_
 rintro⟨k,out⟩ ⟨hk,hol,hi⟩ N hN;simp only at hk hol hi;rcases place l k hk with⟨he,hd⟩|⟨hlt,x,hx,hd⟩<;>rw[hd]at hi
 ·simp[aD]at hi
  subst hi;simp[he]
 ·simp only[aD,zBb]at hi
  replace hi:=hid hi;simp(disch:=omega) [hx];refine aa (by simpa using C9 par x hp (ht x (zAb hx))) rfl λ_=>?_
  simp;refine BrK.mk (λh=>?_) (λh=>?_)
  ·simp(disch:=omega) [hx]
   have hi:=hi.out;refine hN.out _<|Nx.mk (k+1,out++[x]) (by simp) ⟨by simp only;omega,by simp;omega,?_⟩ (by simp only;omega)
   simpa[h,aD]using hi
  ·simp(disch:=omega)
   have hi:=hi.out;refine hN.out _<|Nx.mk (k+1,out) (by simp) ⟨by simp only;omega,by simp only;omega,?_⟩ (by simp only;omega)
   simpa[h,aD]using hi
def sq:Str:=[45,45,62]
mutual
def aQ:Node->List Node
 |⟨k,nm,a,t,ks⟩=>if k=3/\bB sq t=ť then[]else if k=1 then[⟨k,nm,a,t,aD nm (dt (BU (iv nm) ks))⟩]else[⟨k,nm,a,t,ks⟩]
def BU(f:Node->Bool):List Node->List Node
 |[]=>[]
 |n::l=>(if f n then aQ n else[])++BU f l
end
theorem IS(f):∀l:List Node,BU f l=(l.filter f).flatMap aQ
 |[]=>by simp[BU]
 |n::l=>by
   simp only[BU,IS f l,zBb];cases f n<;>simp
theorem ox(n):aQ n=if n.kind=3/\bB sq n.text=ť then[]else if n.kind=1 then[⟨n.kind,n.name,n.attrs,n.text,aD n.name (dt ((aD n.name n.kids).flatMap aQ))⟩]else[n]:=by
 cases n;simp[aQ,IS,aD]
def mD(l:List Node):List Node:=dt (l.flatMap aQ)
def cP(l:List Node):Nat:=(l.map λn=>n.text.length).sum
theorem vq:∀{l:List Node}{n:Node},n∈l->n.text.length<=cP l
 |[],n,h=>by cases h
 |x::l,n,h=>by
   simp only[cP,zAj,zCc];rcases zAh.1 h with rfl|h
   ·omega
   ·have:=vq h;simp only[cP]at this;omega
theorem FSa(a b):cP (a++b)=cP a+cP b:=by simp[cP]
theorem FQ(f):∀l:List Node,cP (l.filter f)<=cP l
 |[]=>by simp
 |n::l=>by
   have:=FQ f l;simp only[cP,zBb]at *;split<;>simp<;>omega
theorem UJ:∀(l:List Node)(i:Nat)(o n:Node),l[i]?=ś o->cP (l.set i n)+o.text.length=cP l+n.text.length
 |[],i,o,n,h=>by simp at h
 |x::l,0,o,n,h=>by simp at h;subst h;simp[cP];omega
 |x::l,i+1,o,n,h=>by
   have:=UJ l i o n (by simpa using h)
   simp only[cP,zCh,zAj,zCc]at *;omega
theorem nr:∀(l out:List Node),(cE out l).length<=out.length+l.length/\cP (cE out l)<=cP out+cP l
 |[],out=>by simp[cE]
 |n::l,out=>by
   have hc:cP (n::l)=n.text.length+cP l:=by simp[cP]
   have h1:=nr l out;have h2:=nr l (out++[n]);rw[FSa]at h2;have hn:cP [n]=n.text.length:=by simp[cP]
   simp only[zBa,zAd,zBf]at h2;simp only[cE,zAd];split
   ·omega
   ·split
    ·rename_i o ho
     split
     ·have h3:=nr l (out.set (out.length-1) ⟨o.kind,o.name,o.attrs,o.text++n.text,o.kids⟩)
      have h4:=UJ out (out.length-1) o ⟨o.kind,o.name,o.attrs,o.text++n.text,o.kids⟩ ho;simp only[List.length_set,zBa]at h3 h4;omega
     ·omega
    ·omega
theorem oP(l):(dt l).length<=l.length/\cP (dt l)<=cP l:=by
 have:=nr l [];simpa[dt,cP]using this
theorem Q0(n):(aQ n).length<=1/\cP (aQ n)<=n.text.length:=by
 rw[ox];split
 ·simp[cP]
 ·split<;>simp[cP]
theorem jt:∀l:List Node,(l.flatMap aQ).length<=l.length/\cP (l.flatMap aQ)<=cP l
 |[]=>by simp
 |n::l=>by
   have h1:=Q0 n;have h2:=jt l;have hc:cP (n::l)=n.text.length+cP l:=by simp[cP]
   simp only[zBd,zBa,FSa,zAd];omega
theorem qT(par)(l):(aD par l).length<=l.length/\cP (aD par l)<=cP l:=⟨List.length_filter_le _ _,FQ _ _⟩
def Qq(n:Node):Prop:=n.name.length<=1000/\n.kids.length<=1000/\cP n.kids<=1000000
theorem K8:∀(l:List Node),aq Qq l->l.length<=1000->cP l<=1000000->Fn ŷ jy [.seq 5 (l.map Node.v)] (.seq 5 ((mD l).map Node.v)):=by
 have key:∀l:List Node,(∀n∈l,∀l':List Node,(∀y∈l',y∈n.kids)->aq Qq n.kids->l'.length<=1000->cP l'<=1000000->Fn ŷ jy [.seq 5 (l'.map Node.v)] (.seq 5 ((mD l').map Node.v)))->
  (∀n∈l,Qq n/\aq Qq n.kids)->l.length<=1000->cP l<=1000000->Fn ŷ jy [.seq 5 (l.map Node.v)] (.seq 5 ((mD l).map Node.v)):=by
  intro l hrec hfi hlen hts;refine yoA J2 ?_;simp;generalize hw:l.flatMap aQ=w;have hws:=jt l;rw[hw]at hws
  refine ah (λ(q:Nat×List Node)=>⟨[(0,.seq 5 (l.map Node.v)),(3,.ref 0 q.2.length),(4,.int .i64 q.1)],[ś (.arr aL 5 (q.2.map Node.v))]⟩)
   (λq=>q.1<=l.length/\q.2.length<=q.1/\q.2++(l.drop q.1).flatMap aQ=w) (λq=>l.length-q.1) [.r 3 aL 5] _ (0,[]) rfl (by simp) (by simp[<-hw]) ?_
  rintro⟨k,out⟩ ⟨hk,hol,hi⟩ N hN;simp only at hk hol hi;rcases place l k hk with⟨he,hd⟩|⟨hlt,x,hx,hd⟩<;>rw[hd]at hi
  ·simp at hi
   subst hi;simp[he];refine dC (zC out (by omega) (λn hn=>by have:=vq hn;omega)) λ_=>?_
   simp[mD,hw]
  ·have hxm:=zAb hx
   obtain⟨⟨hx1,hx2,hx3⟩,hxk⟩:=hfi x hxm;have hxt:=vq hxm;rw[zBd,ox]at hi;replace hi:=hid hi
   have fin:∀τ:St,∀o2:List Node,τ.nrm [0,3,4]=⟨[(0,.seq 5 (l.map Node.v)),(3,.ref 0 o2.length),(4,.int .i64 ((k+1:Nat):Int))],[ś (.arr aL 5 (o2.map Node.v))]⟩->o2.length<=k+1->o2++(l.drop (k+1)).flatMap aQ=w->N τ:=by
    intro τ o2 h1 h2 h3;exact hN.out _<|Nx.mk (k+1,o2) h1 ⟨by simp only;omega,h2,h3⟩ (by simp only;omega)
   by_cases h3:x.kind=3
   ·simp(disch:=omega) [hx,h3]
    refine aa (Gy x.text sq (by simp[sq]) (by omega) (by simp[sq])) rfl λ_=>?_
    simp;refine BrK.mk (λhb=>?_) (λhb=>?_)
    ·simp(disch:=omega)
     have hi:=hi.out;rw[if_pos ⟨h3,hb⟩]at hi;exact fin _ out (by simp) (by omega) (by simpa using hi)
    ·simp(disch:=omega)
     have hi:=hi.out;rw[if_neg (by simp[hb]),if_neg (by omega)]at hi
     exact fin _ (out++[x]) (by simp[h3]) (by simp;omega) (by simpa using hi)
   ·by_cases h1:x.kind=1
    ·have hi:=hi.out
     rw[if_neg (by simp[h3]),if_pos h1]at hi
     have hf1:=qT x.name x.kids;have hf2:=jt (aD x.name x.kids);have hf3:=oP ((aD x.name x.kids).flatMap aQ);simp(disch:=omega) [hx,h1];refine az (uv x.name x.kids (by omega) (by omega) (λn hn=>by have:=vq hn;omega)) (by simp) ?_
     simp;refine az (hrec x hxm (aD x.name x.kids) (λy hy=>(zCb.1 hy).1) hxk (by omega) (by omega)) (by simp) ?_
     simp;refine az (uv x.name (mD (aD x.name x.kids)) (by omega) (by simp only[mD];omega) (λn hn=>by have:=vq hn;simp only[mD]at this;omega)) (by simp) ?_
     simp(disch:=omega);exact fin _ (out++[⟨x.kind,x.name,x.attrs,x.text,aD x.name (dt ((aD x.name x.kids).flatMap aQ))⟩]) (by simp[h1,mD]) (by simp;omega) (by simpa using hi)
    ·have hi:=hi.out
     rw[if_neg (by simp[h3]),if_neg h1]at hi
     simp(disch:=omega) [hx];exact fin _ (out++[x]) (by simp) (by simp;omega) (by simpa using hi)
 have all:∀l:List Node,∀n∈l,∀l':List Node,(∀y∈l',y∈n.kids)->aq Qq n.kids->l'.length<=1000->cP l'<=1000000->Fn ŷ jy [.seq 5 (l'.map Node.v)] (.seq 5 ((mD l').map Node.v)):=by
  refine aE (λx hx=>by cases hx) ?_
  intro n l h1 h2 x hx;rcases zAh.1 hx with rfl|hx
  ·intro l' hs hf
   exact key l' (λm hm=>h1 m (hs m hm)) (λm hm=>dB hf (hs m hm))
  ·exact h2 x hx
 exact λl hf=>key l (all l) (λn hn=>dB hf hn)
def right(s:Str):Bool:=decide (eS s=s)
def CP:List Attr->Str->Bool
 |[],_=>ğ
 |a::l,s=>if a.name=s then ť else CP l s
def r4:List Attr->List Attr->Int
 |_,[]=>0
 |pre,a::l=>if gC a.name then(if CP pre a.name then 5 else r4 (pre++[a]) l)else 4
def gH:List Attr->Bool
 |[]=>ť
 |a::l=>right a.value&&gH l
def xj(n:Node):Int:=
 if n.text=[]then(if named n.name then(if r4 [] n.attrs=0 then(if gH n.attrs then 0 else 2)else r4 [] n.attrs)else 4)else 7
theorem Lp:∀(l pre:List Attr),r4 pre l=0\/r4 pre l=4\/r4 pre l=5
 |[],pre=>by simp[r4]
 |a::l,pre=>by
   simp only[r4];split
   ·split
    ·simp
    ·exact Lp l _
   ·simp
def rW(n:Node):Prop:=n.name.length<=1000000/\n.text.length<=1000000/\n.attrs.length<=1000000/\∀a∈n.attrs,a.name.length<=1000000/\a.value.length<=1000000
theorem H5(n)(hf:rW n):Fn ŷ Hb [n.v] (.int .i64 (xj n)):=by
 refine yoA Hq ?_;obtain⟨h1,h2,h3,h4⟩:=hf;simp[xj];refine aa (lF _) rfl λ_=>?_;simp;refine BrKd.mk (λht=>?_) (λht=>?_)
 ·simp[ht]
  refine BrK.mk (λhn=>?_) (λhn=>?_)
  ·simp[hn]
   generalize hD:r4 [] n.attrs=D;have hDc:=Lp n.attrs [];rw[hD]at hDc
   refine ah (λ(k:Nat)=>⟨[(1,.ptr 0 0),(4,.int .i64 k)],[ś (.box [.int .i64 n.kind,.str n.name,.seq 2 (n.attrs.map Attr.v),.str [],.seq 5 (n.kids.map Node.v)])]⟩)
    (λk=>k<=n.attrs.length/\r4 (n.attrs.take k) (n.attrs.drop k)=D) (λk=>n.attrs.length-k) [] _ 0 rfl (by simp) (by simp[hD]) ?_
   rintro k ⟨hk,hi⟩ N hN;rcases place n.attrs k hk with⟨he,hd⟩|⟨hlt,x,hx,hd⟩<;>rw[hd]at hi
   ·simp only[r4]at hi
    subst hi;simp[he];generalize hV:gH n.attrs=R
    refine ah (λ(k:Nat)=>⟨[(1,.ptr 0 0),(7,.int .i64 k)],[ś (.box [.int .i64 n.kind,.str n.name,.seq 2 (n.attrs.map Attr.v),.str [],.seq 5 (n.kids.map Node.v)])]⟩)
     (λk=>k<=n.attrs.length/\gH (n.attrs.drop k)=R) (λk=>n.attrs.length-k) [] _ 0 rfl (by simp) (by simp[hV]) ?_
    rintro k ⟨hk,hi⟩ N hN;rcases place n.attrs k hk with⟨he,hd⟩|⟨hlt,x,hx,hd⟩<;>rw[hd]at hi
    ·simp only[gH]at hi
     subst hi;simp[he]
    ·obtain⟨g1,g2⟩:=h4 x (zAb hx)
     simp only[gH]at hi;replace hi:=hid hi;simp(disch:=omega) [hx];refine aa (Bp x.value g2) rfl λ_=>?_;simp;refine BrKd.mk (λh=>?_) (λh=>?_)
     ·simp(disch:=omega)
      have hi:=hi.out;refine hN.out _<|Nx.mk (k+1) (by simp) ⟨by omega,?_⟩ (by omega)
      simpa[right,h]using hi
     ·simp
      have hi:=hi.out;simp[right,h]at hi;simp[hi]
   ·obtain⟨g1,g2⟩:=h4 x (zAb hx)
    simp only[r4]at hi;replace hi:=hid hi;simp(disch:=omega) [hx];refine aa (pi x.name g1) rfl λ_=>?_;simp;refine BrK.mk (λh=>?_) (λh=>?_)
    ·have hi:=hi.out
     rw[if_pos h]at hi;replace hi:=hid hi;simp
     refine ah (λ(j:Nat)=>⟨[(1,.ptr 0 0),(4,.int .i64 k),(6,.int .i64 j)],[ś (.box [.int .i64 n.kind,.str n.name,.seq 2 (n.attrs.map Attr.v),.str [],.seq 5 (n.kids.map Node.v)])]⟩)
      (λj=>j<=k/\CP (n.attrs.take k) x.name=CP ((n.attrs.take k).drop j) x.name) (λj=>k-j) [] _ 0 rfl (by simp) (by simp) ?_
     rintro j ⟨hj,hi2⟩ N2 hN2;by_cases hlt2:j<k
     ·obtain⟨y,hy⟩:=av (l:=n.attrs) (k:=j) (by omega)
      rw[take_drop hy hlt2,CP]at hi2;replace hi2:=hid hi2;simp(disch:=omega) [hx,hy];refine BrKd.mk (λh=>?_) (λh=>?_)
      ·simp
       have hi:=hi.out;have hi2:=hi2.out;rw[if_pos h]at hi2;rw[if_pos hi2]at hi;subst hi;simp
      ·simp(disch:=omega)
       have hi2:=hi2.out;rw[if_neg h]at hi2;exact hN2.out _<|Nx.mk (j+1) (by simp) ⟨by omega,hi2⟩ (by omega)
     ·have e:(n.attrs.take k).drop j=[]:=by simp;omega
      rw[e,CP]at hi2;have hi:=hi.out;rw[if_neg (by simp[hi2])]at hi
      replace hi:=hid hi;simp(disch:=omega);refine hN.out _<|Nx.mk (k+1) (by simp) ⟨by omega,?_⟩ (by omega)
      rw[bk hx];exact hi.out
    ·have hi:=hi.out
     rw[if_neg (by simp[h])]at hi
     subst hi;simp
  ·simp[hn]
 ·simp[ht]
def gJ(n:Node)(txt:Bool):Int:=
 if n.kind=1 then xj n
 else if n.kind=2\/n.kind=3 then(if n.name=[]/\n.attrs=[]/\n.kids=[]then(if right n.text/\(n.kind=2->¬n.text=[]/\txt=ğ)then 0 else 2)else 7)
 else 7
theorem WR(n)(txt)(hf:rW n):Fn ŷ Gc [n.v,.bool txt] (.int .i64 (gJ n txt)):=by
 refine yoA VV ?_;have hla:0<n.attrs.length↔¬n.attrs=[]:=by rw[zCd]
 have hlk:0<n.kids.length↔¬n.kids=[]:=by rw[zCd]
 have hf2:=hf.2.1;simp[gJ]
 repeat' (first
  |(refine BrKd.mk (λh=>?_) (λh=>?_)<;>simp(disch:=omega) [hla,hlk, *])
  |(refine BrK.mk (λh=>?_) (λh=>?_)<;>simp(disch:=omega) [hla,hlk, *])
  |(refine aa (by simpa[*]using H5 n hf) rfl (λ_=>?_)<;>simp(disch:=omega) [hla,hlk, *])
  |(refine aa (Bp n.text hf2) rfl (λ_=>?_)<;>simp(disch:=omega) [hla,hlk,right, *]))
mutual
def aix:Node->Int
 |⟨_,_,_,_,ks⟩=>lW ğ ks
def lW:Bool->List Node->Int
 |_,[]=>0
 |txt,n::l=>if gJ n txt=0 then(if aix n=0 then lW (decide (n.kind=2)) l else aix n)else gJ n txt
end
theorem aaM(n):aix n=lW ğ n.kids:=by cases n;simp[aix]
def may(l:List Node):Int:=lW ğ l
def iY(l:List Node)(k:Nat):Bool:=decide (0<k)&&(match l[k-1]? with
 |some n=>decide (n.kind=2)
 |none=>ğ)
theorem WS:∀(l:List Node),aq rW l->Fn ŷ p6 [.seq 5 (l.map Node.v)] (.int .i64 (may l)):=by
 have key:∀l:List Node,(∀n∈l,aq rW n.kids->Fn ŷ p6 [.seq 5 (n.kids.map Node.v)] (.int .i64 (may n.kids)))->aq rW l->Fn ŷ p6 [.seq 5 (l.map Node.v)] (.int .i64 (may l)):=by
  intro l hrec hfi;refine yoB VY λho=>?_;simp only[oks,ok,and_true]at ho;have hlen:l.length<=140737488355328:=by have:=ho.1;simpa using this
  clear ho;simp;generalize hr:may l=r;refine ah (λk:Nat=>⟨[(0,.seq 5 (l.map Node.v)),(3,.int .i64 k)],[]⟩) (λk=>k<=l.length/\lW (iY l k) (l.drop k)=r) (λk=>l.length-k) [] _ 0 rfl (by simp) (by simp[<-hr,may,iY]) ?_
  rintro k ⟨hk,hi⟩ N hN;rcases place l k hk with⟨he,hd⟩|⟨hlt,x,hx,hd⟩<;>rw[hd]at hi<;>replace hi:=hid hi
  ·simp only[lW]at hi
   have hi:=hi.out;subst hi;simp[he]
  ·have hxm:=zAb hx
   obtain⟨hfx,hfk⟩:=dB hfi hxm;have hp1:iY l (k+1)=decide (x.kind=2):=by simp[iY,hx]
   simp only[lW,aaM]at hi;rw[<-hp1]at hi;change Hid ((if gJ x (iY l k)=0 then if may x.kids=0 then lW (iY l (k+1)) (l.drop (k+1))else may x.kids else gJ x (iY l k))=r)at hi
   have e1:gJ x (iY l k)≠0->r=gJ x (iY l k):=λh=>by have hi:=hi.out;rw[if_neg h]at hi;exact hi.symm
   have e2:gJ x (iY l k)=0->may x.kids≠0->r=may x.kids:=λh h'=>by have hi:=hi.out;rw[if_pos h]at hi;rw[if_neg h']at hi;exact hi.symm
   have e3:gJ x (iY l k)=0->may x.kids=0->lW (iY l (k+1)) (l.drop (k+1))=r:=λh h'=>by have hi:=hi.out;rw[if_pos h]at hi;rw[if_pos h']at hi;exact hi
   replace e1:=hid e1;replace e2:=hid e2;replace e3:=hid e3;clear hi;have hone:∀b:Bool,b=iY l k->Fn ŷ Gc [x.v,.bool b] (.int .i64 (gJ x (iY l k))):=λb hb=>by rw[hb];exact WR x (iY l k) hfx
   have rest:∀K:St->Prop,(∀τ:St,τ.nrm [0,3]=⟨[(0,.seq 5 (l.map Node.v)),(3,.int .i64 ((k+1:Nat):Int))],[]⟩->gJ x (iY l k)=0->may x.kids=0->N τ):=by
    intro K τ h h1 h2;exact hN.out _<|Nx.mk (k+1) h ⟨by omega,e3.out h1 h2⟩ (by omega)
   replace rest:=rest (λ_=>True);rcases zBg k with hk0|hk0
   ·subst hk0
    have hp0:iY l 0=false:=by simp[iY]
    simp(disch:=omega) [hx];refine aw (by simpa using hone ğ hp0.symm) rfl ?_
    simp;refine BrKd.mk (λh=>?_) (λh=>?_)
    ·simp[h,hx]
     refine aa (hrec x hxm hfk) rfl λ_=>?_;simp;refine BrKd.mk (λh2=>?_) (λh2=>?_)
     ·simp
      exact rest _ (by simp) h h2
     ·simp
      exact(e2.out h h2).symm
    ·simp
     exact(e1.out h).symm
   ·obtain⟨y,hy⟩:=av (l:=l) (k:=k-1) (by omega)
    have hkt:((k:Int)-1).toNat=k-1:=by omega
    have hpk:iY l k=decide (y.kind=2):=by simp[iY,hy,hk0]
    simp(disch:=omega) [hx,hy];refine aw (by simpa using hone (decide (y.kind=2)) hpk.symm) rfl ?_
    simp;refine BrKd.mk (λh=>?_) (λh=>?_)
    ·simp[h,hx]
     refine aa (hrec x hxm hfk) rfl λ_=>?_;simp;refine BrKd.mk (λh2=>?_) (λh2=>?_)
     ·simp(disch:=omega)
      exact rest _ (by simp) h h2
     ·simp
      exact(e2.out h h2).symm
    ·simp
     exact(e1.out h).symm
 have all:∀l:List Node,∀n∈l,aq rW n.kids->Fn ŷ p6 [.seq 5 (n.kids.map Node.v)] (.int .i64 (may n.kids)):=by
  refine aE (λx hx=>by cases hx) ?_
  intro n l h1 h2 x hx;rcases zAh.1 hx with rfl|hx
  ·exact key _ h1
  ·exact h2 x hx
 exact λl=>key l (all l)
mutual
def alj:Node->Bool
 |⟨_,_,_,_,ks⟩=>tT ks
def tT:List Node->Bool
 |[]=>ť
 |n::l=>(!(decide (n.kind=3)&&bB sq n.text)&&(n.kids.all (iv n.name)&&alj n))&&tT l
end
theorem abi(n):alj n=tT n.kids:=by cases n;simp[alj]
theorem WQ:∀(l:List Node),aq rW l->Fn ŷ p5 [.seq 5 (l.map Node.v)] (.bool (tT l)):=by
 have key:∀l:List Node,(∀n∈l,aq rW n.kids->Fn ŷ p5 [.seq 5 (n.kids.map Node.v)] (.bool (tT n.kids)))->aq rW l->Fn ŷ p5 [.seq 5 (l.map Node.v)] (.bool (tT l)):=by
  intro l hrec hfi;refine yoB VU λho=>?_;simp only[oks,ok,and_true]at ho;have hlen:l.length<=140737488355328:=by have:=ho.1;simpa using this
  have hlenk:∀x∈l,x.kids.length<=140737488355328:=λx hx=>by
   have h:=(aaI.1 ho.2) _ (zBh hx);simp at h;exact h.2.2.2.2.1
  clear ho;simp;generalize hr:tT l=r;refine ah (λk:Nat=>⟨[(0,.seq 5 (l.map Node.v)),(3,.int .i64 k)],[]⟩) (λk=>k<=l.length/\tT (l.drop k)=r) (λk=>l.length-k) [] _ 0 rfl (by simp) (by simp[*]) ?_
  rintro k ⟨hk,hi⟩ N hN;rcases place l k hk with⟨he,hd⟩|⟨hlt,x,hx,hd⟩<;>rw[hd]at hi<;>replace hi:=hid hi
  ·have hi:=hi.out
   simp only[tT]at hi;subst hi;simp[he]
  ·have hxm:=zAb hx
   obtain⟨hfx,hfk⟩:=dB hfi hxm;have hxk:=hlenk x hxm;simp only[tT,abi]at hi;have bad:(!(decide (x.kind=3)&&bB sq x.text)&&(x.kids.all (iv x.name)&&tT x.kids))=ğ->r=false:=λh=>by have hi:=hi.out;rw[h]at hi;simpa using hi.symm
   have good:(!(decide (x.kind=3)&&bB sq x.text)&&(x.kids.all (iv x.name)&&tT x.kids))=ť->tT (l.drop (k+1))=r:=λh=>by have hi:=hi.out;rw[h]at hi;simpa using hi
   replace bad:=hid bad;replace good:=hid good;clear hi;have hax:0<sq.length:=by simp[sq]
   have hal:sq.length<=1000000000:=by simp[sq]
   have hxt:=hfx.2.1;simp(disch:=omega) [hx];generalize hA:x.kids.all (iv x.name)=A at bad good
   repeat' (first
    |(refine BrKd.mk (λh=>?_) (λh=>?_)<;>simp(disch:=omega) [hx, *])
    |(refine BrK.mk (λh=>?_) (λh=>?_)<;>simp(disch:=omega) [hx, *])
    |(refine aa (Gy x.text sq hax (by omega) hal) rfl (λ_=>?_)<;>simp(disch:=omega) [hx, *]))
   all_goals
    first
    |(rw[bad.out (by simp[*])];done)
    |(refine(bad.out (by simp[*]));done)
    |(refine(bad.out (by simp[*])).symm;done)
    |skip
   all_goals
    refine ah (λ(j:Nat)=>⟨[(0,.seq 5 (l.map Node.v)),(3,.int .i64 k),(4,.int .i64 j)],[]⟩)
     (λj=>j<=x.kids.length/\((x.kids.drop j).all (iv x.name))=A) (λj=>x.kids.length-j) [] _ 0 rfl (by simp) (by simp[hA]) ?_
    rintro j ⟨hj,hi⟩ N2 hN2;rcases place x.kids j hj with⟨he2,hd2⟩|⟨hlt2,y,hy,hd2⟩<;>rw[hd2]at hi
    ·simp only[List.all_nil]at hi
     subst hi;simp[hx,he2];refine aa (hrec x hxm hfk) rfl λ_=>?_;simp;refine BrK.mk (λh2=>?_) (λh2=>?_)
     ·simp(disch:=omega)
      refine hN.out _<|Nx.mk (k+1) (by simp) ⟨by omega,good.out (by simp[*])⟩ (by omega)
     ·simp
      have hb:=bad.out (by simp[*])
      simp[hb]
    ·obtain⟨hfy,_⟩:=dB hfk (zAb hy)
     simp only[zBe]at hi;have ht2:y.text.length<=100000000:=by have:=hfy.2.1;omega
     replace hi:=hid hi;simp(disch:=omega) [hx,hy];refine aw (by simpa using C9 x.name y hfx.1 ht2) rfl ?_
     simp;refine BrK.mk (λh2=>?_) (λh2=>?_)
     ·simp(disch:=omega)
      have hi:=hi.out;rw[h2]at hi;refine hN2.out _<|Nx.mk (j+1) (by simp) ⟨by omega,by simpa using hi⟩ (by omega)
     ·simp
      have hi:=hi.out;rw[h2]at hi;simp only[zDd]at hi;subst hi;have hb:=bad.out (by simp)
      simp[hb]
 have all:∀l:List Node,∀n∈l,aq rW n.kids->Fn ŷ p5 [.seq 5 (n.kids.map Node.v)] (.bool (tT n.kids)):=by
  refine aE (λx hx=>by cases hx) ?_
  intro n l h1 h2 x hx;rcases zAh.1 hx with rfl|hx
  ·exact key _ h1
  ·exact h2 x hx
 exact λl=>key l (all l)
def vu(l:List Node):Bool:=decide (may l=0)&&tT l
theorem K9(l)(hf:aq rW l):Fn ŷ Jw [.seq 5 (l.map Node.v)] (.bool (vu l)):=by
 refine yoA J3 ?_;simp[vu];refine aa (WS l hf) rfl λ_=>?_;simp;refine BrKd.mk (λh=>?_) (λh=>?_)
 ·simp[h]
  refine aa (WQ l hf) rfl λ_=>?_;simp
 ·simp[h]
def aaK(A:Constraint->Str->Bool)(p:Policy)(l:List Node):Int:=(dD A p [] l 0).1
theorem WP(A)(p)(hA:D4 A p)(l)(hf:aq KY l)(hc:aK l<=1000000000):Fn ŷ Vl [p.v,.seq 5 (l.map Node.v)] (.int .i64 (aaK A p l)):=by
 refine yoA VQ ?_;simp[aaK];refine aa (by simpa using WO A p hA l [] hf hc) rfl λ_=>?_
 simp
def iC(A:Constraint->Str->Bool)(p:Policy)(l:List Node):Bool:=vu l&&decide (aaK A p l<0)
theorem OG(A)(p)(hA:D4 A p)(l)(hf:aq KY l)(hf1:aq rW l)(hc:aK l<=1000000000):Fn ŷ zh [p.v,.seq 5 (l.map Node.v)] (.bool (iC A p l)):=by
 refine yoA M5 ?_;simp[iC];refine aa (K9 l hf1) rfl λ_=>?_;simp;refine BrK.mk (λh=>?_) (λh=>?_)
 ·simp[h]
  refine aa (by simpa using WP A p hA l hf hc) rfl λ_=>?_
  simp
 ·simp[h]
theorem bF{f}:∀{l:List Node},aq f l↔∀n∈l,f n/\aq f n.kids
 |[]=>by simp[aq]
 |n::l=>by simp[aq,bE,bF (l:=l)]
theorem yy{f g}(h:∀n,f n->aq f n.kids->g n):∀l:List Node,aq f l->aq g l:=by
 refine aE (λ_=>by simp[aq]) ?_
 intro n l h1 h2 ha;simp only[aq,bE]at ha⊢;exact⟨⟨h n ha.1.1 ha.1.2,h1 ha.1.2⟩,h2 ha.2⟩
theorem nM(a b):aK (a++b)=aK a+aK b:=by
 induction a with
 |nil=>simp[aK]
 |cons x a ih=>simp only[List.cons_append,aK,ih];omega
theorem Dp(f):∀l:List Node,aK (l.filter f)<=aK l
 |[]=>by simp
 |n::l=>by
   have:=Dp f l;simp only[zBb];split<;>simp only[aK]<;>omega
theorem QD:∀(l:List Node)(i:Nat)(o n:Node),l[i]?=ś o->aK n.kids=aK o.kids->aK (l.set i n)=aK l
 |[],i,o,n,h,_=>by simp at h
 |x::l,0,o,n,h,hk=>by simp at h;subst h;simp[aK,qn,hk]
 |x::l,i+1,o,n,h,hk=>by
   have:=QD l i o n (by simpa using h) hk
   simp only[zCh,aK,this]
theorem qg:∀(l out:List Node),aK (cE out l)<=aK out+aK l
 |[],out=>by simp[cE]
 |n::l,out=>by
   have h1:=qg l out;have h2:=qg l (out++[n]);rw[nM]at h2;have hn:aK [n]=ZV n:=by simp[aK]
   have hc:aK (n::l)=ZV n+aK l:=by simp[aK]
   simp only[cE];split
   ·omega
   ·split
    ·rename_i o ho
     split
     ·have h3:=qg l (out.set (out.length-1) ⟨o.kind,o.name,o.attrs,o.text++n.text,o.kids⟩)
      have e:=QD out (out.length-1) o ⟨o.kind,o.name,o.attrs,o.text++n.text,o.kids⟩ ho rfl;rw[e]at h3;omega
     ·omega
    ·omega
theorem yl(l):aK (dt l)<=aK l:=by
 have:=qg l [];simpa[dt,aK]using this
theorem lV{P:Node->Prop}(hP:∀k n a t ks t',P ⟨k,n,a,t,ks⟩->P ⟨k,n,a,t',ks⟩):∀(l out:List Node),(∀n∈out,P n)->(∀n∈l,P n)->∀n∈cE out l,P n
 |[],out,ho,_=>by simpa[cE]using ho
 |n::l,out,ho,hl=>by
   have hn:=hl n (by simp)
   have hl':∀n∈l,P n:=λx hx=>hl x (by simp[hx])
   have hon:∀x∈out++[n],P x:=λx hx=>by
    rcases zBc.1 hx with h|h
    ·exact ho x h
    ·simp at h;subst h;exact hn
   simp only[cE];split
   ·exact lV hP l out ho hl'
   ·split
    ·rename_i o hoo
     split
     ·refine lV hP l _ (λx hx=>?_) hl'
      rcases zCa hx with h|h
      ·exact ho x h
      ·subst h
       have:=ho o (zAb hoo);obtain⟨k0,n0,a0,t0,ks0⟩:=o;exact hP _ _ _ _ _ _ this
     ·exact lV hP l _ hon hl'
    ·exact lV hP l _ hon hl'
theorem PU{P:Node->Prop}(hP:∀k n a t ks t',P ⟨k,n,a,t,ks⟩->P ⟨k,n,a,t',ks⟩){l}(h:∀n∈l,P n):∀n∈dt l,P n:=lV hP l [] (λ_ h=>by cases h) h
def kw(n:Node):Prop:=n.name.length<=1000/\n.attrs.length<=1000/\(∀a∈n.attrs,a.name.length<=1000/\a.value.length<=1000)/\n.kids.length<=1000/\cP n.kids<=1000000
theorem qf{l}(h:aq kw l):aq kw (dt l):=
 bF.2 (PU (P:=λn=>kw n/\aq kw n.kids) (λk n a t ks t' h=>h) (bF.1 h))
def Zi(n:Node):Prop:=n.name.length<=30/\n.text.length<=30/\n.attrs.length<=5/\∀a∈n.attrs,a.name.length<=30/\a.value.length<=30
theorem GH:∀(l:List Node)(m:Nat),aq Zi (fA l m).1:=by
 refine aE (λm=>by simp[fA,aq]) ?_
 intro n l h1 h2 m;simp only[fA,Iu];split
 ·simp[aq]
 ·simp only[aq,aae]
  refine⟨⟨⟨by simp[yV];omega,by simp[yV];omega,by simp;omega,λa ha=>?_⟩,h1 _⟩,h2 _⟩
  simp only[zCg]at ha;obtain⟨b,_,rfl⟩:=ha;simp[acU,yV];omega
theorem Vc{l:List Str}{m}(h:l.all (λs=>decide (s.length<=m))=ť)(i:Nat):((l[i]?).getD []).length<=m:=by
 cases hi:l[i]? with
 |none=>simp
 |some x=>simpa using List.all_eq_true.1 h x (zAb hi)
theorem Bi:∀(l acc:List Attr),(∀a∈l,a.name.length<=30/\a.value.length<=30)->(∀a∈acc,a.name.length<=1000/\a.value.length<=1000)->
 (ku acc l).length<=acc.length+l.length/\∀a∈ku acc l,a.name.length<=1000/\a.value.length<=1000
 |[],acc,_,ha=>by simpa[ku]using ha
 |x::l,acc,hl,ha=>by
   have hx:=hl x (by simp)
   have hl':∀a∈l,a.name.length<=30/\a.value.length<=30:=λa h=>hl a (by simp[h])
   simp only[ku];split
   ·have:=Bi l acc hl' ha
    exact⟨by simp;omega,this.2⟩
   ·have:=Bi l (acc++[⟨cJ x.name,eS x.value⟩]) hl' (λa h=>by
     rcases zBc.1 h with h|h
     ·exact ha a h
     ·simp at h;subst h
      have h1:=AG x.value
      have h2:(cJ x.name).length<=1000:=by
       unfold cJ;split
       ·omega
       ·have:=Vc (l:=ae3) (m:=1000) (by decide) (x.name.length%5)
        omega
      exact⟨h2,by simp only;omega⟩)
    exact⟨by have:=this.1;simp at this⊢;omega,this.2⟩
theorem IL(f)(c):∀l:List Node,(∀n∈l,(f n).text.length<=c)->cP (l.map f)<=c*l.length
 |[],_=>by simp[cP]
 |n::l,h=>by
   have h1:=h n (by simp)
   have h2:=IL f c l (λx hx=>h x (by simp[hx]))
   simp only[cP,zAj,zCc,zAd,Nat.mul_succ]at *;omega
theorem Y7:∀l:List Node,aq Zi l->aK l<=1000->aq kw (l.map dG)/\aK (l.map dG)<=aK l/\(∀n∈l.map dG,n.text.length<=120):=by
 refine aE (λ_ _=>by simp[aq]) ?_
 intro n l h1 h2 ha hc;simp only[aq,bE]at ha;simp only[aK,qn]at hc;obtain⟨g1,g2,g3⟩:=h2 ha.2 (by omega)
 obtain⟨k1,k2,k3⟩:=h1 ha.1.2 (by omega)
 have hw:(D6 n.name).length<=1000:=by
  unfold D6;split
  ·have:=ha.1.1.1;omega
  ·have:=Vc (l:=aaE) (m:=1000) (by decide) (sumB n.name%10);omega
 have hA:=Bi n.attrs [] ha.1.1.2.2.2 (λ_ h=>by cases h)
 have hr:=AG n.text;have ht:=ha.1.1.2.1;have hat:=ha.1.1.2.2.1;have hm:=oP (n.kids.map dG);have hmc:=yl (n.kids.map dG);have hkl:=tI n.kids;have hts:=IL dG 120 n.kids (λx hx=>k3 _ (zBh hx));have hts2:120*n.kids.length<=120*1000:=zCe _ (by omega)
 simp only[List.length_map]at hm;simp only[zBf,Nat.zero_add]at hA;refine⟨?_,?_,?_⟩
 ·simp only[zAj,aq,bE]
  refine⟨?_,g1⟩;rw[l9];split
  ·refine⟨⟨hw,?_,hA.2,?_,?_⟩,qf k1⟩
   ·simp only;omega
   ·simp only;omega
   ·simp only;omega
  ·exact⟨⟨by simp,by simp,by simp,by simp,by simp[cP]⟩,by simp[aq]⟩
 ·simp only[zAj,aK,qn]
  rw[l9];split
  ·simp only;omega
  ·simp only[aK];omega
 ·intro x hx
  simp only[zAj,zAh]at hx;rcases hx with rfl|hx
  ·rw[l9]
   split
   ·simp
   ·simp only;omega
  ·exact g3 x hx
theorem wR(l):aq kw (bI l)/\aK (bI l)<=40/\cP (bI l)<=4800:=by
 have hc:=Lv l 40;obtain⟨h1,h2,h3⟩:=Y7 (fA l 40).1 (GH l 40) (by omega)
 have hm:=oP ((fA l 40).1.map dG);have hmc:=yl ((fA l 40).1.map dG);have ht:=IL dG 120 (fA l 40).1 (λx hx=>h3 _ (zBh hx));have hl:=tI (fA l 40).1;have:120*(fA l 40).1.length<=120*40:=zCe _ (by omega)
 exact⟨qf h1,by unfold bI;omega,by unfold bI;omega⟩
theorem Q1:∀l:List Node,aq kw l->aq kw (l.flatMap aQ)/\aK (l.flatMap aQ)<=aK l:=by
 refine aE (λ_=>by simp[aq]) ?_
 intro n l h1 h2 ha;simp only[aq,bE]at ha;obtain⟨g1,g2⟩:=h2 ha.2
 have happ:∀a b:List Node,aq kw a->aq kw b->aq kw (a++b):=λa b ha hb=>bF.2 λx hx=>by
  rcases zBc.1 hx with h|h
  ·exact bF.1 ha x h
  ·exact bF.1 hb x h
 have key:aq kw (aQ n)/\aK (aQ n)<=ZV n:=by
  rw[ox];split
  ·simp[aq,aK]
  ·split
   ·have hk1:aq kw (n.kids.flatMap aQ)/\aK (n.kids.flatMap aQ)<=aK n.kids:=h1 ha.1.2
    have hf:=qT n.name n.kids;have hs:=jt (aD n.name n.kids);have hm:=oP ((aD n.name n.kids).flatMap aQ);have hf2:=qT n.name (dt ((aD n.name n.kids).flatMap aQ))
    have hsub:aq kw ((aD n.name n.kids).flatMap aQ):=bF.2 λx hx=>by
     obtain⟨y,hy,hxy⟩:=zDb.1 hx;exact bF.1 hk1.1 x (zDb.2 ⟨y,(zCb.1 hy).1,hxy⟩)
    have hcs:∀ks:List Node,aK ((aD n.name ks).flatMap aQ)<=aK (ks.flatMap aQ):=by
     intro ks
     induction ks with
     |nil=>simp[aD]
     |cons y ks ih=>
       simp only[aD,zBb,zBd,nM]at ih⊢;split
       ·simp only[zBd,nM];omega
       ·omega
    have hmy:=qf hsub;have hc1:=hcs n.kids;have hc2:=yl ((aD n.name n.kids).flatMap aQ);have hc3:=Dp (iv n.name) (dt ((aD n.name n.kids).flatMap aQ));have hl:=ha.1.1.2.2.2;simp only[aq,bE,aK,qn];refine⟨⟨⟨⟨ha.1.1.1,ha.1.1.2.1,ha.1.1.2.2.1,?_,?_⟩,?_⟩,trivial⟩,?_⟩
    ·simp only;omega
    ·simp only;omega
    ·exact bF.2 λx hx=>bF.1 hmy x (zCb.1 hx).1
    ·simp only[aD]at *;omega
   ·simp only[aq,bE,aK]
    exact⟨⟨ha.1,trivial⟩,by omega⟩
 simp only[zBd,nM];exact⟨happ _ _ key.1 g1,by simp only[aK];omega⟩
def bR(l:List Node):List Node:=mD (bI l)
theorem Gs(l):aq kw (bR l)/\aK (bR l)<=40/\cP (bR l)<=4800:=by
 obtain⟨h1,h2,h3⟩:=wR l;obtain⟨g1,g2⟩:=Q1 (bI l) h1;have hs:=jt (bI l);have hm:=oP ((bI l).flatMap aQ);have hc:=yl ((bI l).flatMap aQ);exact⟨qf g1,by unfold bR mD;omega,by unfold bR mD;omega⟩
theorem aiL:∀l:List Node,aq kw l->cP l<=1000000->aq rW l:=by
 refine aE (λ_ _=>by simp[aq]) ?_
 intro n l h1 h2 ha ht;simp only[aq,bE]at ha⊢;have hc:cP (n::l)=n.text.length+cP l:=by simp[cP]
 obtain⟨⟨⟨a1,a2,a3,a4,a5⟩,a6⟩,a7⟩:=ha;exact⟨⟨⟨by omega,by omega,by omega,λa h=>by have:=a3 a h;omega⟩,h1 a6 a5⟩,h2 a7 (by omega)⟩
theorem aiK(l)(h:aq kw l):aq KY l:=yy (λn h _=>⟨by have:=h.2.1;omega,λa ha=>(h.2.2.1 a ha).2⟩) l h
theorem C8(l):Fn ŷ RD [.seq 5 (l.map Node.v)] (.seq 5 ((bR l).map Node.v)):=by
 refine yoA Sx ?_;obtain⟨h1,h2,h3⟩:=wR l;have hl:=tI (bI l);have hf:aq Qq (bI l):=yy (λn h _=>⟨h.1,h.2.2.2⟩) _ h1;simp;refine ae (Dd l) (by simp) λ_=>?_
 simp;refine ae (K8 (bI l) hf (by omega) (by omega)) (by simp) λ_=>?_
 simp[bR]
theorem GB(s:Str):Fn ŷ Vt [.str s] (.bool (named s)):=by
 refine yoB V5 λho=>?_;simp only[oks,ok,and_true]at ho;simp;generalize hr:named s=r;refine ah (λk:Nat=>⟨[(0,.str s),(7,.int .i64 s.length),(8,.int .i64 k)],[]⟩) (λk=>k<=s.length/\(if k=0 then named s else(s.drop k).all fE)=r) (λk=>s.length-k) [] _ 0 rfl (by simp) (by simp[hr]) ?_
 rintro k ⟨hk,hi⟩ N hN;by_cases hk0:k=0
 ·subst hk0
  simp only[if_true]at hi;cases s with
  |nil=>simp[named]at hi;subst hi;simp
  |cons b t=>
    have hb:=b.toNat_lt;simp only[named,zBe]at hi;replace hi:=hid hi;simp
    repeat' (first|(refine BrKd.mk (λh=>?_) (λh=>?_)<;>simp[*])|(refine BrK.mk (λh=>?_) (λh=>?_)<;>simp(disch:=omega) [*]))
    all_goals first
     |(refine hN.out _<|Nx.mk 1 (by simp) ⟨by simp,?_⟩ (by simp);have hi:=hi.out;simpa(disch:=omega) [fE,small,decide_eq_true,decide_eq_false, *]using hi)
     |(have hi:=hi.out;simpa(disch:=omega) [fE,small,decide_eq_true,decide_eq_false, *]using hi)
     |omega
 ·simp only[if_neg hk0]at hi
  rcases place s k hk with⟨he,hd⟩|⟨hlt,x,hx,hd⟩<;>rw[hd]at hi<;>replace hi:=hid hi
  ·simp[he]
   have hi:=hi.out;have:s≠[]:=by intro h;subst h;simp at he;omega
   simpa[this]using hi
  ·have hb:=x.toNat_lt
   simp only[zBe]at hi;simp(disch:=omega) [hx]
   repeat' (first|(refine BrKd.mk (λh=>?_) (λh=>?_)<;>simp(disch:=omega) [*])|(refine BrK.mk (λh=>?_) (λh=>?_)<;>simp(disch:=omega) [*]))
   all_goals first
    |omega
    |(refine hN.out _<|Nx.mk (k+1) (by simp) ⟨by omega,?_⟩ (by omega);have hi:=hi.out;rw[if_neg (by omega)];simpa(disch:=omega) [fE,small,decide_eq_true,decide_eq_false, *]using hi)
    |(have hi:=hi.out;simpa(disch:=omega) [fE,small,decide_eq_true,decide_eq_false, *]using hi)
theorem La(s:Str):Fn ŷ Jy [.str s] (.bool (plain s)):=by
 refine yoB J6 λho=>?_;simp only[oks,ok,and_true]at ho;simp[plain]
 repeat' (first|(refine BrKd.mk (λh=>?_) (λh=>?_)<;>simp[*])|(refine BrK.mk (λh=>?_) (λh=>?_)<;>simp(disch:=omega) [*])|(refine aa (GB _) rfl (λ_=>?_)<;>simp)|(refine aw (GB _) rfl ?_<;>simp(disch:=omega) [*]))
 all_goals simp[*]
theorem d8(p:Policy)(s:Str):Fn ŷ MF [p.v,.str s] (.tup [((aJ p.elements s).getD .zero).v,.bool (aJ p.elements s).isSome]):=by
 refine yoB Ns λho=>?_;simp only[oks,ok,and_true]at ho;have hlen:p.elements.length<=140737488355328:=by have:=ho.1;simp at this;exact this.2.1.1
 clear ho;simp;generalize hr:aJ p.elements s=r;refine ah (λk:Nat=>⟨[(1,.str s),(4,.ptr 0 0),(9,.seq 3 (p.elements.map Allowed.v)),(10,.int .i64 p.elements.length),(11,.int .i64 k)],[ś (.box [.str [],.nil 1,.nil 5])]⟩) (λk=>k<=p.elements.length/\aJ (p.elements.drop k) s=r) (λk=>p.elements.length-k) [] _ 0 rfl (by simp) (by simp[*]) ?_
 rintro k ⟨hk,hi⟩ N hN;rcases place p.elements k hk with⟨he,hd⟩|⟨hlt,x,hx,hd⟩<;>rw[hd]at hi<;>replace hi:=hid hi
 ·simp[he]
  simp[<-hi.out,aJ,Allowed.zero]
 ·simp(disch:=omega) [hx]
  repeat' (first|(refine BrKd.mk (λh=>?_) (λh=>?_)<;>simp(disch:=omega) [*])|(refine BrK.mk (λh=>?_) (λh=>?_)<;>simp(disch:=omega) [*]))
  all_goals first
   |(refine hN.out _<|Nx.mk (k+1) (by simp) ⟨by omega,?_⟩ (by omega);simpa(disch:=omega) [*,decide_eq_true,decide_eq_false,aJ]using hi.out)
   |(have hi:=hi.out;simp[aJ, *]at hi;subst hi;simp[*])
end Go.Abs.F
end
