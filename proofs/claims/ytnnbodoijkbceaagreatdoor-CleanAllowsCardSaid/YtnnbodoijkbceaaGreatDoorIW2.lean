/- What the program's functions for texts, patterns, rules and places answer. No condition. -/
import Derived.Test.YtnnbodoijkbceaaGreatDoorIF1
import Derived.Test.YtnnbodoijkbceaaGreatDoorIW0
import Derived.Test.YtnnbodoijkbceaaGreatDoorIP1
import Derived.Lib.IndexMore
set_option linter.all false
set_option maxHeartbeats 0
set_option maxRecDepth 100000
open List renaming reduceReplicate→zAa
namespace Go.Abs.F
open Go.Proofs
attribute [-simp] getElem?_pos Option.not_isSome List.map_map
theorem pc(s t:Str)(hs:s.length<4294967281):Fn Tryz.prog Ac [.str s,.str t] (.int .i64 (Lib.index s t)):=by
 refine yoA Al ?_;simp(disch:=omega) [-zAa];refine ac (sJ s t hs) rfl fun _=>?_;simp(disch:=omega) [-zAa]
theorem uT(s t:Str)(hs:s.length<4294967281):Fn Tryz.prog ut [.str s,.str t] (.bool (decide (0<=Lib.index s t))):=by
 refine yoA uC ?_;simp(disch:=omega) [-zAa];refine ac (pc s t hs) rfl fun _=>?_;simp(disch:=omega) [-zAa]
theorem mr (s:Str):Fn Tryz.prog gI [.str s,.str [42]] (.bool (eZ s).2):=by
 refine yoB gO fun ho=>?_
 simp only [oks,ok,and_true] at ho
 by_cases hp:0 < s.length
 · obtain ⟨x,hx⟩:=aP (l:=s) (k:=s.length - 1) (by omega)
   have hd:s.drop (s.length - 1)=[x]:=by
    rw [List.drop_eq_getElem_cons (by omega)]
    have:s[s.length - 1]?=some (s[s.length - 1]'(by omega)):=List.getElem?_eq_getElem _
    rw [this] at hx
    cases hx
    have:s.drop (s.length - 1 + 1)=[]:=by rw [List.drop_eq_nil_iff]; omega
    rw [this]
   have e:((s.length:Int) - 1).toNat=s.length - 1:=by omega
   have hst:(eZ s).2=decide (x=42):=by
    simp only [eZ,hx]
    by_cases h:x.toNat=42
    · have:x=42:=by apply UInt8.toNat_inj.1; simpa using h
      simp [this]
    · have:¬x=42:=by rintro rfl; simp at h
      simp [h,this]
   rw [hst]
   simp (disch:=omega) [-zAa,e,hd]
   repeat' (first | (refine BrKd.mk (fun h=>?_) (fun h=>?_)<;>simp (disch:=omega) [*]) | (refine BrK.mk (fun h=>?_) (fun h=>?_)<;>simp (disch:=omega) [*]))
   all_goals first
    | omega
    | (have e1:s.length - (s.length - 1)=1:=by omega
       simp [*,e1])
 · have:s=[]:=by cases s; rfl; simp at hp
   subst this
   simp (disch:=omega) [-zAa,eZ]
theorem mt(s:Str):Fn Tryz.prog gJ [.str s,.str [42]] (.tup [.str (eZ s).1,.bool (eZ s).2]):=by
 refine yoB gP fun ho=>?_;simp only[oks,ok,and_true]at ho;simp(disch:=omega) [-zAa];refine ac (mr s) rfl fun _=>?_;simp(disch:=omega) [-zAa];refine BrK.mk (fun h=>?_) (fun h=>?_)
 ·have hp:0<s.length:=by
   cases s with
   |nil=>simp[eZ]at h
   |cons _ _=>simp
  have e:((s.length:Int)-1).toNat=s.length-1:=by omega
  have c1:1<=s.length:=hp;have c2:(s.length:Int)-1<=s.length:=by omega
  have hst:eZ s=(s.take (s.length-1),true):=by
   cases hx:s[s.length-1]? with
   |none=>simp[eZ,hx]at h
   |some x=>by_cases hc:x.toNat=42<;>simp[eZ,hx,hc]at h⊢
  simp(disch:=omega) [-zAa,hst,e,c1,c2]
 ·have hst:eZ s=(s,false):=by
   cases hx:s[s.length-1]? with
   |none=>simp[eZ,hx]
   |some x=>by_cases hc:x.toNat=42<;>simp[eZ,hx,hc]at h⊢
  simp(disch:=omega) [-zAa,hst]
theorem qR(s:Str):Fn Tryz.prog jM [.str s,.str [42]] (.tup [.str (eZ s).1,.bool (eZ s).2]):=by
 refine yoB jQ fun ho=>?_;simp only[oks,ok,and_true]at ho;simp(disch:=omega) [-zAa];refine ac (mt s) rfl fun _=>?_;simp(disch:=omega) [-zAa]
theorem yj(s:Str):Fn Tryz.prog xP [.str s] (.tup [.str (eZ s).1,.bool (eZ s).2,.bool (plain (eZ s).1)]):=by
 refine yoB x5 fun ho=>?_;simp only[oks,ok,and_true]at ho;simp(disch:=omega) [-zAa];refine ac (qR s) rfl fun _=>?_;simp(disch:=omega) [-zAa];refine ac (Dc _) rfl fun _=>?_;simp(disch:=omega) [-zAa]
theorem OW(s:Str):fK s s=true:=by simp[fK]
theorem Gx(pat nm:Str):Fn Tryz.prog Eu [.str pat,.str nm] (.bool (fits pat nm)):=by
 refine yoB Fi fun ho=>?_;simp only[oks,ok,and_true]at ho;simp(disch:=omega) [-zAa,fits];refine ac (yj pat) rfl fun _=>?_;generalize(eZ pat).1=a at *;generalize(eZ pat).2=b at *;simp(disch:=omega) [-zAa]
 repeat' (first|(refine BrKd.mk (fun h=>?_) (fun h=>?_)<;>simp(disch:=omega) [*])|(refine BrK.mk (fun h=>?_) (fun h=>?_)<;>simp(disch:=omega) [*])|(refine ac (jW _ _) rfl (fun _=>?_)<;>simp(disch:=omega) [*])|(refine ay (jW _ _) rfl ?_<;>simp(disch:=omega) [*]))
 all_goals simp[OW, *]
theorem Gw(e:Allowed)(s:Str):Fn Tryz.prog Et [e.v,.str s] (.tup [((fP e.rules s).getD .zero).v,.bool (fP e.rules s).isSome]):=by
 refine yoB Fh fun ho=>?_;simp only[oks,ok,and_true]at ho;have hlen:e.rules.length<=140737488355328:=by have:=ho.1;simp at this;exact this.2.2.1
 clear ho;simp(disch:=omega) [-zAa];generalize hr:fP e.rules s=r;refine ak (fun k:Nat=>⟨[(1,.str s),(4,.ptr 0 0),(9,.seq 5 (e.rules.map Rule.v)),(10,.int .i64 e.rules.length),(11,.int .i64 k)],[some (.box [.str [],.int .i64 0,.nil 1,.str [],.bool false])]⟩) (fun k=>k<=e.rules.length/\fP (e.rules.drop k) s=r) (fun k=>e.rules.length-k) [] _ 0 rfl (by simp[*]) (by simp[*]) ?_
 rintro k ⟨hk,hi⟩ N hN;rcases place e.rules k hk with⟨he,hd⟩|⟨hlt,x,hx,hd⟩<;>rw[hd]at hi<;>replace hi:=hid hi
 ·simp(disch:=omega) [-zAa,he]
  simp[<-hi.out,fP,Rule.zero]
 ·simp(disch:=omega) [-zAa,hx]
  refine ac (Gx _ _) rfl fun _=>?_;simp(disch:=omega) [-zAa];refine BrK.mk (fun h=>?_) (fun h=>?_)
  ·simp(disch:=omega) [-zAa,hx]
   have hi:=hi.out;simp[fP,h]at hi;subst hi;simp
  ·simp(disch:=omega) [-zAa]
   refine hN.out _<|Nx.mk (k+1) (by simp[*]) ⟨by omega,?_⟩ (by omega)
   have hi:=hi.out;simpa[fP,h]using hi
def r4(p:Policy)(par:Str)(n:Node):Bool:=
 if par=[]then(if n.kind=2 then hasS p.top k7 else if n.kind=3 then hasS p.top dG else decide (n.kind=1)&&((aT p.elements n.name).isSome&&hasS p.top n.name))
 else match aT p.elements par with
  |none=>false
  |some e=>if n.kind=2 then hasS e.kids k7 else if n.kind=3 then hasS e.kids dG else decide (n.kind=1)&&((aT p.elements n.name).isSome&&hasS e.kids n.name)
theorem pf(p:Policy)(par:Str)(n:Node):Fn Tryz.prog Ah [p.v,.str par,n.v] (.bool (r4 p par n)):=by
 refine yoA Aq ?_;simp(disch:=omega) [-zAa,r4];refine BrKd.mk (fun h=>?_) (fun h=>?_)
 ·simp(disch:=omega) [-zAa,h]
  repeat' (first
   |(refine BrKd.mk (fun h=>?_) (fun h=>?_)<;>simp(disch:=omega) [*])
   |(refine BrK.mk (fun h=>?_) (fun h=>?_)<;>simp(disch:=omega) [*])
   |(refine al (iJ p n.name) (by simp) (fun _=>?_)<;>simp(disch:=omega) [*])
   |(refine ac (f_slices_Contains_string p.top _) rfl (fun _=>?_)<;>simp(disch:=omega) [k7,dG, *]))
 ·simp(disch:=omega) [-zAa,h]
  refine al (iJ p par) (by simp) fun _=>?_
  cases hf:aT p.elements par with
  |none=>
    simp(disch:=omega) [-zAa,hf]
  |some e=>
    simp(disch:=omega) [-zAa,hf]
    repeat' (first
     |(refine BrKd.mk (fun h=>?_) (fun h=>?_)<;>simp(disch:=omega) [*])
     |(refine BrK.mk (fun h=>?_) (fun h=>?_)<;>simp(disch:=omega) [*])
     |(refine al (iJ p n.name) (by simp) (fun _=>?_)<;>simp(disch:=omega) [*])
     |(refine ac (f_slices_Contains_string e.kids _) rfl (fun _=>?_)<;>simp(disch:=omega) [k7,dG, *]))
theorem GD(l:List Attr)(s:Str):Fn Tryz.prog EC [.seq 2 (l.map Attr.v),.str s] (.bool (fO l s)):=by
 refine yoB Fr fun ho=>?_;simp only[oks,ok,and_true]at ho;have hlen:l.length<=140737488355328:=by have:=ho.1.1;simpa using this
 clear ho;simp(disch:=omega) [-zAa];generalize hr:fO l s=r;refine ak (fun k:Nat=>⟨[(1,.str s),(7,.seq 2 (l.map Attr.v)),(8,.int .i64 l.length),(9,.int .i64 k)],[]⟩) (fun k=>k<=l.length/\fO (l.drop k) s=r) (fun k=>l.length-k) [] _ 0 rfl (by simp[*]) (by simp[*]) ?_
 rintro k ⟨hk,hi⟩ N hN;rcases place l k hk with⟨he,hd⟩|⟨hlt,x,hx,hd⟩<;>rw[hd]at hi<;>replace hi:=hid hi
 ·simp(disch:=omega) [-zAa,he]
  simpa[fO]using hi.out
 ·simp(disch:=omega) [-zAa,hx]
  repeat' (first|(refine BrKd.mk (fun h=>?_) (fun h=>?_)<;>simp(disch:=omega) [*])|(refine BrK.mk (fun h=>?_) (fun h=>?_)<;>simp(disch:=omega) [*]))
  all_goals first
   |(refine hN.out _<|Nx.mk (k+1) (by simp[*]) ⟨by omega,?_⟩ (by omega);simpa(disch:=omega) [*,decide_eq_true,decide_eq_false,fO]using hi.out)
   |(first|simpa(disch:=omega) [*,decide_eq_true,decide_eq_false,fO]using hi.out.symm|simpa(disch:=omega) [*,decide_eq_true,decide_eq_false,fO]using hi.out)
end Go.Abs.F
