/- What the program's functions for texts, patterns, rules and places answer. No condition. -/
import Derived.Test.YtnnbodoijkbceaaGreatDoorJF1
import Derived.Test.YtnnbodoijkbceaaGreatDoorJW0
import Derived.Test.YtnnbodoijkbceaaGreatDoorJP1
import Derived.Lib.IndexMore
set_option linter.all false
set_option maxHeartbeats 0
set_option maxRecDepth 100000
open List renaming reduceReplicate→zAa
namespace Go.Abs.F
open Go.Proofs
attribute [-simp] getElem?_pos Option.not_isSome List.map_map
theorem nD(s t:Str)(hs:s.length<4294967281):Fn Tryz.prog xC [.str s,.str t] (.int .i64 (Lib.index s t)):=by
 refine yoA xL ?_;simp(disch:=omega) [-zAa];refine ah (q7 s t hs) rfl fun _=>?_;simp(disch:=omega) [-zAa]
theorem sR(s t:Str)(hs:s.length<4294967281):Fn Tryz.prog sq [.str s,.str t] (.bool (decide (0<=Lib.index s t))):=by
 refine yoA sC ?_;simp(disch:=omega) [-zAa];refine ah (nD s t hs) rfl fun _=>?_;simp(disch:=omega) [-zAa]
theorem lp (s:Str):Fn Tryz.prog fO [.str s,.str [42]] (.bool (fx s).2):=by
 refine yoB fT fun ho=>?_
 simp only [oks,ok,and_true] at ho
 by_cases hp:0 < s.length
 · obtain ⟨x,hx⟩:=bq (l:=s) (k:=s.length - 1) (by omega)
   have hd:s.drop (s.length - 1)=[x]:=by
    rw [List.drop_eq_getElem_cons (by omega)]
    have:s[s.length - 1]?=some (s[s.length - 1]'(by omega)):=List.getElem?_eq_getElem _
    rw [this] at hx
    cases hx
    have:s.drop (s.length - 1 + 1)=[]:=by rw [List.drop_eq_nil_iff]; omega
    rw [this]
   have e:((s.length:Int) - 1).toNat=s.length - 1:=by omega
   have hst:(fx s).2=decide (x=42):=by
    simp only [fx,hx]
    by_cases h:x.toNat=42
    · have:x=42:=by apply UInt8.toNat_inj.1; simpa using h
      simp [this]
    · have:¬x=42:=by rintro rfl; simp at h
      simp [h,this]
   rw [hst]
   simp (disch:=omega) [-zAa,e,hd]
   repeat' (first | (refine BrKd.mk (fun h=>?_) (fun h=>?_)<;>simp (disch:=omega) [*]) | (refine BrK.mk (fun h=>?_) (fun h=>?_)<;>simp (disch:=omega) [*]))
   all_goals first
    | omega
    | (have e1:s.length - (s.length - 1)=1:=by omega
       simp [*,e1])
 · have:s=[]:=by cases s; rfl; simp at hp
   subst this
   simp (disch:=omega) [-zAa,fx]
theorem lr(s:Str):Fn Tryz.prog fP [.str s,.str [42]] (.tup [.str (fx s).1,.bool (fx s).2]):=by
 refine yoB fU fun ho=>?_;simp only[oks,ok,and_true]at ho;simp(disch:=omega) [-zAa];refine ah (lp s) rfl fun _=>?_;simp(disch:=omega) [-zAa];refine BrK.mk (fun h=>?_) (fun h=>?_)
 ·have hp:0<s.length:=by
   cases s with
   |nil=>simp[fx]at h
   |cons _ _=>simp
  have e:((s.length:Int)-1).toNat=s.length-1:=by omega
  have c1:1<=s.length:=hp;have c2:(s.length:Int)-1<=s.length:=by omega
  have hst:fx s=(s.take (s.length-1),true):=by
   cases hx:s[s.length-1]? with
   |none=>simp[fx,hx]at h
   |some x=>by_cases hc:x.toNat=42<;>simp[fx,hx,hc]at h⊢
  simp(disch:=omega) [-zAa,hst,e,c1,c2]
 ·have hst:fx s=(s,false):=by
   cases hx:s[s.length-1]? with
   |none=>simp[fx,hx]
   |some x=>by_cases hc:x.toNat=42<;>simp[fx,hx,hc]at h⊢
  simp(disch:=omega) [-zAa,hst]
theorem pC(s:Str):Fn Tryz.prog i1 [.str s,.str [42]] (.tup [.str (fx s).1,.bool (fx s).2]):=by
 refine yoB i6 fun ho=>?_;simp only[oks,ok,and_true]at ho;simp(disch:=omega) [-zAa];refine ah (lr s) rfl fun _=>?_;simp(disch:=omega) [-zAa]
theorem vQ(s:Str):Fn Tryz.prog vB [.str s] (.tup [.str (fx s).1,.bool (fx s).2,.bool (plain (fx s).1)]):=by
 refine yoB vK fun ho=>?_;simp only[oks,ok,and_true]at ho;simp(disch:=omega) [-zAa];refine ah (pC s) rfl fun _=>?_;simp(disch:=omega) [-zAa];refine ah (AA _) rfl fun _=>?_;simp(disch:=omega) [-zAa]
theorem J3(s:Str):kq s s=true:=by simp[kq]
theorem Db(pat nm:Str):Fn Tryz.prog BK [.str pat,.str nm] (.bool (fits pat nm)):=by
 refine yoB Ck fun ho=>?_;simp only[oks,ok,and_true]at ho;simp(disch:=omega) [-zAa,fits];refine ah (vQ pat) rfl fun _=>?_;generalize(fx pat).1=a at *;generalize(fx pat).2=b at *;simp(disch:=omega) [-zAa]
 repeat' (first|(refine BrKd.mk (fun h=>?_) (fun h=>?_)<;>simp(disch:=omega) [*])|(refine BrK.mk (fun h=>?_) (fun h=>?_)<;>simp(disch:=omega) [*])|(refine ah (jd _ _) rfl (fun _=>?_)<;>simp(disch:=omega) [*])|(refine aI (jd _ _) rfl ?_<;>simp(disch:=omega) [*]))
 all_goals simp[J3, *]
theorem Da(e:Allowed)(s:Str):Fn Tryz.prog BJ [e.v,.str s] (.tup [((lY e.rules s).getD .zero).v,.bool (lY e.rules s).isSome]):=by
 refine yoB Cj fun ho=>?_;simp only[oks,ok,and_true]at ho;have hlen:e.rules.length<=140737488355328:=by have:=ho.1;simp at this;exact this.2.2.1
 clear ho;simp(disch:=omega) [-zAa];generalize hr:lY e.rules s=r;refine au (fun k:Nat=>⟨[(1,.str s),(4,.ptr 0 0),(9,.seq 5 (e.rules.map Rule.v)),(10,.int .i64 e.rules.length),(11,.int .i64 k)],[some (.box [.str [],.int .i64 0,.nil 1,.str [],.bool false])]⟩) (fun k=>k<=e.rules.length/\lY (e.rules.drop k) s=r) (fun k=>e.rules.length-k) [] _ 0 rfl (by simp[*]) (by simp[*]) ?_
 rintro k ⟨hk,hi⟩ N hN;rcases place e.rules k hk with⟨he,hd⟩|⟨hlt,x,hx,hd⟩<;>rw[hd]at hi<;>replace hi:=hid hi
 ·simp(disch:=omega) [-zAa,he]
  simp[<-hi.out,lY,Rule.zero]
 ·simp(disch:=omega) [-zAa,hx]
  refine ah (Db _ _) rfl fun _=>?_;simp(disch:=omega) [-zAa];refine BrK.mk (fun h=>?_) (fun h=>?_)
  ·simp(disch:=omega) [-zAa,hx]
   have hi:=hi.out;simp[lY,h]at hi;subst hi;simp
  ·simp(disch:=omega) [-zAa]
   refine hN.out _<|Nx.mk (k+1) (by simp[*]) ⟨by omega,?_⟩ (by omega)
   have hi:=hi.out;simpa[lY,h]using hi
def qy(p:Policy)(par:Str)(n:Node):Bool:=
 if par=[]then(if n.kind=2 then hasS p.top kT else if n.kind=3 then hasS p.top dA else decide (n.kind=1)&&((aW p.elements n.name).isSome&&hasS p.top n.name))
 else match aW p.elements par with
  |none=>false
  |some e=>if n.kind=2 then hasS e.kids kT else if n.kind=3 then hasS e.kids dA else decide (n.kind=1)&&((aW p.elements n.name).isSome&&hasS e.kids n.name)
theorem nF(p:Policy)(par:Str)(n:Node):Fn Tryz.prog xF [p.v,.str par,n.v] (.bool (qy p par n)):=by
 refine yoA xO ?_;simp(disch:=omega) [-zAa,qy];refine BrKd.mk (fun h=>?_) (fun h=>?_)
 ·simp(disch:=omega) [-zAa,h]
  repeat' (first
   |(refine BrKd.mk (fun h=>?_) (fun h=>?_)<;>simp(disch:=omega) [*])
   |(refine BrK.mk (fun h=>?_) (fun h=>?_)<;>simp(disch:=omega) [*])
   |(refine ay (gO p n.name) (by simp) (fun _=>?_)<;>simp(disch:=omega) [*])
   |(refine ah (f_slices_Contains_string p.top _) rfl (fun _=>?_)<;>simp(disch:=omega) [kT,dA, *]))
 ·simp(disch:=omega) [-zAa,h]
  refine ay (gO p par) (by simp) fun _=>?_
  cases hf:aW p.elements par with
  |none=>
    simp(disch:=omega) [-zAa,hf]
  |some e=>
    simp(disch:=omega) [-zAa,hf]
    repeat' (first
     |(refine BrKd.mk (fun h=>?_) (fun h=>?_)<;>simp(disch:=omega) [*])
     |(refine BrK.mk (fun h=>?_) (fun h=>?_)<;>simp(disch:=omega) [*])
     |(refine ay (gO p n.name) (by simp) (fun _=>?_)<;>simp(disch:=omega) [*])
     |(refine ah (f_slices_Contains_string e.kids _) rfl (fun _=>?_)<;>simp(disch:=omega) [kT,dA, *]))
theorem Dg(l:List Attr)(s:Str):Fn Tryz.prog BR [.seq 2 (l.map Attr.v),.str s] (.bool (gn l s)):=by
 refine yoB Ct fun ho=>?_;simp only[oks,ok,and_true]at ho;have hlen:l.length<=140737488355328:=by have:=ho.1.1;simpa using this
 clear ho;simp(disch:=omega) [-zAa];generalize hr:gn l s=r;refine au (fun k:Nat=>⟨[(1,.str s),(7,.seq 2 (l.map Attr.v)),(8,.int .i64 l.length),(9,.int .i64 k)],[]⟩) (fun k=>k<=l.length/\gn (l.drop k) s=r) (fun k=>l.length-k) [] _ 0 rfl (by simp[*]) (by simp[*]) ?_
 rintro k ⟨hk,hi⟩ N hN;rcases place l k hk with⟨he,hd⟩|⟨hlt,x,hx,hd⟩<;>rw[hd]at hi<;>replace hi:=hid hi
 ·simp(disch:=omega) [-zAa,he]
  simpa[gn]using hi.out
 ·simp(disch:=omega) [-zAa,hx]
  repeat' (first|(refine BrKd.mk (fun h=>?_) (fun h=>?_)<;>simp(disch:=omega) [*])|(refine BrK.mk (fun h=>?_) (fun h=>?_)<;>simp(disch:=omega) [*]))
  all_goals first
   |(refine hN.out _<|Nx.mk (k+1) (by simp[*]) ⟨by omega,?_⟩ (by omega);simpa(disch:=omega) [*,decide_eq_true,decide_eq_false,gn]using hi.out)
   |(first|simpa(disch:=omega) [*,decide_eq_true,decide_eq_false,gn]using hi.out.symm|simpa(disch:=omega) [*,decide_eq_true,decide_eq_false,gn]using hi.out)
end Go.Abs.F
