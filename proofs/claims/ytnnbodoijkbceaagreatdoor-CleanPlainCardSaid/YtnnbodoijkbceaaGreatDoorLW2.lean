/-
  What the program's functions for texts, patterns, rules and places answer. No condition.
-/
import Derived.Test.YtnnbodoijkbceaaGreatDoorLF1
import Derived.Test.YtnnbodoijkbceaaGreatDoorLW0
import Derived.Test.YtnnbodoijkbceaaGreatDoorLP1
import Derived.Lib.IndexMore
set_option linter.all false
set_option maxHeartbeats 0
set_option maxRecDepth 100000
namespace Go.Abs.F
open Go.Proofs
attribute [-simp] getElem?_pos Option.not_isSome List.map_map
theorem kA (s t:Str) (hs:s.length < 4294967281):Fn Tryz.prog sM [.str s,.str t] (.int .i64 (Lib.index s t)):=by
 refine Fn.of_image mixed sZ sS rfl fun ho=>?_
 unfold kF
 simp only [oks,ok,and_true] at ho
 clear ho
 simp (disch:=omega) [-List.reduceReplicate]
 refine ah (na s t hs) rfl fun _=>?_
 simp (disch:=omega) [-List.reduceReplicate]
theorem oI (s t:Str) (hs:s.length < 4294967281):Fn Tryz.prog oe [.str s,.str t] (.bool (decide (0≤Lib.index s t))):=by
 refine Fn.of_image mixed oA ou rfl fun ho=>?_
 unfold io
 simp only [oks,ok,and_true] at ho
 clear ho
 simp (disch:=omega) [-List.reduceReplicate]
 refine ah (kA s t hs) rfl fun _=>?_
 simp (disch:=omega) [-List.reduceReplicate]
theorem i6 (s:Str):Fn Tryz.prog eI [.str s,.str [42]] (.bool (gG s).2):=by
 refine Fn.of_image mixed eR eO rfl fun ho=>?_
 unfold cm
 simp only [oks,ok,and_true] at ho
 by_cases hp:0 < s.length
 · obtain ⟨x,hx⟩:=fw (l:=s) (k:=s.length - 1) (by omega)
   have hd:s.drop (s.length - 1)=[x]:=by
    rw [List.drop_eq_getElem_cons (by omega)]
    have:s[s.length - 1]?=some (s[s.length - 1]'(by omega)):=List.getElem?_eq_getElem _
    rw [this] at hx
    cases hx
    have:s.drop (s.length - 1 + 1)=[]:=by rw [List.drop_eq_nil_iff]; omega
    rw [this]
   have e:((s.length:Int) - 1).toNat=s.length - 1:=by omega
   have hst:(gG s).2=decide (x=42):=by
    simp only [gG,hx]
    by_cases h:x.toNat=42
    · have:x=42:=by apply UInt8.toNat_inj.1; simpa using h
      simp [this]
    · have:¬x=42:=by rintro rfl; simp at h
      simp [h,this]
   rw [hst]
   simp (disch:=omega) [-List.reduceReplicate,e,hd]
   repeat' (first | (refine BrKd.mk (fun h=>?_) (fun h=>?_)<;>simp (disch:=omega) [*]) | (refine BrK.mk (fun h=>?_) (fun h=>?_)<;>simp (disch:=omega) [*]))
   all_goals first
    | omega
    | (have e1:s.length - (s.length - 1)=1:=by omega
       simp [*,e1])
 · have:s=[]:=by cases s; rfl; simp at hp
   subst this
   simp (disch:=omega) [-List.reduceReplicate,gG]
theorem i7 (s:Str):Fn Tryz.prog eJ [.str s,.str [42]] (.tup [.str (gG s).1,.bool (gG s).2]):=by
 refine Fn.of_image mixed eS eP rfl fun ho=>?_
 unfold cn
 simp only [oks,ok,and_true] at ho
 simp (disch:=omega) [-List.reduceReplicate]
 refine ah (i6 s) rfl fun _=>?_
 simp (disch:=omega) [-List.reduceReplicate]
 refine BrK.mk (fun h=>?_) (fun h=>?_)
 · have hp:0 < s.length:=by
    cases s with
    | nil=>simp [gG] at h
    | cons _ _=>simp
   have e:((s.length:Int) - 1).toNat=s.length - 1:=by omega
   have c1:1≤s.length:=hp
   have c2:(s.length:Int) - 1≤s.length:=by omega
   have hst:gG s=(s.take (s.length - 1),true):=by
    cases hx:s[s.length - 1]? with
    | none=>simp [gG,hx] at h
    | some x=>by_cases hc:x.toNat=42<;>simp [gG,hx,hc] at h ⊢
   simp (disch:=omega) [-List.reduceReplicate,hst,e,c1,c2]
 · have hst:gG s=(s,false):=by
    cases hx:s[s.length - 1]? with
    | none=>simp [gG,hx]
    | some x=>by_cases hc:x.toNat=42<;>simp [gG,hx,hc] at h ⊢
   simp (disch:=omega) [-List.reduceReplicate,hst]
theorem lU (s:Str):Fn Tryz.prog gr [.str s,.str [42]] (.tup [.str (gG s).1,.bool (gG s).2]):=by
 refine Fn.of_image mixed gx gv rfl fun ho=>?_
 unfold dQ
 simp only [oks,ok,and_true] at ho
 simp (disch:=omega) [-List.reduceReplicate]
 refine ah (i7 s) rfl fun _=>?_
 simp (disch:=omega) [-List.reduceReplicate]
theorem rj (s:Str):Fn Tryz.prog qX [.str s] (.tup [.str (gG s).1,.bool (gG s).2,.bool (plain (gG s).1)]):=by
 refine Fn.of_image mixed rh re rfl fun ho=>?_
 unfold jC
 simp only [oks,ok,and_true] at ho
 simp (disch:=omega) [-List.reduceReplicate]
 refine ah (lU s) rfl fun _=>?_
 simp (disch:=omega) [-List.reduceReplicate]
 refine ah (vb _) rfl fun _=>?_
 simp (disch:=omega) [-List.reduceReplicate]
theorem Di (s:Str):iy s s=true:=by simp [iy]
theorem xE (pat nm:Str):Fn Tryz.prog wd [.str pat,.str nm] (.bool (fits pat nm)):=by
 refine Fn.of_image mixed xj wM rfl fun ho=>?_
 unfold nI
 simp only [oks,ok,and_true] at ho
 simp (disch:=omega) [-List.reduceReplicate,fits]
 refine ah (rj pat) rfl fun _=>?_
 generalize (gG pat).1=a at *
 generalize (gG pat).2=b at *
 simp (disch:=omega) [-List.reduceReplicate]
 repeat' (first | (refine BrKd.mk (fun h=>?_) (fun h=>?_)<;>simp (disch:=omega) [*]) | (refine BrK.mk (fun h=>?_) (fun h=>?_)<;>simp (disch:=omega) [*]) | (refine ah (gy _ _) rfl (fun _=>?_)<;>simp (disch:=omega) [*]) | (refine bw (gy _ _) rfl ?_<;>simp (disch:=omega) [*]))
 all_goals simp [Di, *]
theorem xD (e:Allowed) (s:Str):Fn Tryz.prog wc [e.v,.str s] (.tup [((jt e.rules s).getD .zero).v,.bool (jt e.rules s).isSome]):=by
 refine Fn.of_image mixed xi wL rfl fun ho=>?_
 unfold nH
 simp only [oks,ok,and_true] at ho
 have hlen:e.rules.length≤140737488355328:=by have:=ho.1; simp at this; exact this.2.2.1
 clear ho
 simp (disch:=omega) [-List.reduceReplicate]
 generalize hr:jt e.rules s=r
 refine aI (fun k:Nat=>⟨[(1,.str s),(4,.ptr 0 0),(9,.seq 5 (e.rules.map Rule.v)),(10,.int .i64 e.rules.length),(11,.int .i64 k)],[some (.box [.str [],.int .i64 0,.nil 1,.str [],.bool false])]⟩) (fun k=>k≤e.rules.length∧jt (e.rules.drop k) s=r) (fun k=>e.rules.length - k) [] _ 0 rfl (by simp [*]) (by simp [*]) ?_
 rintro k ⟨hk,hi⟩ N hN
 rcases place e.rules k hk with ⟨he,hd⟩ | ⟨hlt,x,hx,hd⟩<;>rw [hd] at hi<;>replace hi:=hid hi
 · simp (disch:=omega) [-List.reduceReplicate,he]
   simp [←hi.out,jt,Rule.zero]
 · simp (disch:=omega) [-List.reduceReplicate,hx]
   refine ah (xE _ _) rfl fun _=>?_
   simp (disch:=omega) [-List.reduceReplicate]
   refine BrK.mk (fun h=>?_) (fun h=>?_)
   · simp (disch:=omega) [-List.reduceReplicate,hx]
     have hi:=hi.out
     simp [jt,h] at hi
     subst hi
     simp
   · simp (disch:=omega) [-List.reduceReplicate]
     refine hN.out _<|Nx.mk (k + 1) (by simp [*]) ⟨by omega,?_⟩ (by omega)
     have hi:=hi.out
     simpa [jt,h] using hi
def mE (p:Policy) (par:Str) (n:Node):Bool:=
 if par=[] then (if n.kind=2 then bT p.top fQ else if n.kind=3 then bT p.top eT else decide (n.kind=1) && ((bj p.elements n.name).isSome && bT p.top n.name))
 else match bj p.elements par with
  | none=>false
  | some e=>if n.kind=2 then bT e.kids fQ else if n.kind=3 then bT e.kids eT else decide (n.kind=1) && ((bj p.elements n.name).isSome && bT e.kids n.name)
theorem kB (p:Policy) (par:Str) (n:Node):Fn Tryz.prog sO [p.v,.str par,n.v] (.bool (mE p par n)):=by
 refine Fn.of_image mixed s5 sU rfl fun ho=>?_
 unfold kH
 simp only [oks,ok,and_true] at ho
 clear ho
 simp (disch:=omega) [-List.reduceReplicate,mE]
 refine BrKd.mk (fun h=>?_) (fun h=>?_)
 · simp (disch:=omega) [-List.reduceReplicate,h]
   repeat' (first
    | (refine BrKd.mk (fun h=>?_) (fun h=>?_)<;>simp (disch:=omega) [*])
    | (refine BrK.mk (fun h=>?_) (fun h=>?_)<;>simp (disch:=omega) [*])
    | (refine aA (fC p n.name) (by simp) (fun _=>?_)<;>simp (disch:=omega) [*])
    | (refine ah (aW p.top _) rfl (fun _=>?_)<;>simp (disch:=omega) [fQ,eT, *]))
 · simp (disch:=omega) [-List.reduceReplicate,h]
   refine aA (fC p par) (by simp) fun _=>?_
   cases hf:bj p.elements par with
   | none=>
     simp (disch:=omega) [-List.reduceReplicate,hf]
   | some e=>
     simp (disch:=omega) [-List.reduceReplicate,hf]
     repeat' (first
      | (refine BrKd.mk (fun h=>?_) (fun h=>?_)<;>simp (disch:=omega) [*])
      | (refine BrK.mk (fun h=>?_) (fun h=>?_)<;>simp (disch:=omega) [*])
      | (refine aA (fC p n.name) (by simp) (fun _=>?_)<;>simp (disch:=omega) [*])
      | (refine ah (aW e.kids _) rfl (fun _=>?_)<;>simp (disch:=omega) [fQ,eT, *]))
theorem xH (l:List Attr) (s:Str):Fn Tryz.prog wm [.seq 2 (l.map Attr.v),.str s] (.bool (dY l s)):=by
 refine Fn.of_image mixed xr wU rfl fun ho=>?_
 unfold nQ
 simp only [oks,ok,and_true] at ho
 have hlen:l.length≤140737488355328:=by have:=ho.1.1; simpa using this
 clear ho
 simp (disch:=omega) [-List.reduceReplicate]
 generalize hr:dY l s=r
 refine aI (fun k:Nat=>⟨[(1,.str s),(7,.seq 2 (l.map Attr.v)),(8,.int .i64 l.length),(9,.int .i64 k)],[]⟩) (fun k=>k≤l.length∧dY (l.drop k) s=r) (fun k=>l.length - k) [] _ 0 rfl (by simp [*]) (by simp [*]) ?_
 rintro k ⟨hk,hi⟩ N hN
 rcases place l k hk with ⟨he,hd⟩ | ⟨hlt,x,hx,hd⟩<;>rw [hd] at hi<;>replace hi:=hid hi
 · simp (disch:=omega) [-List.reduceReplicate,he]
   simpa [dY] using hi.out
 · simp (disch:=omega) [-List.reduceReplicate,hx]
   repeat' (first | (refine BrKd.mk (fun h=>?_) (fun h=>?_)<;>simp (disch:=omega) [*]) | (refine BrK.mk (fun h=>?_) (fun h=>?_)<;>simp (disch:=omega) [*]))
   all_goals first
    | (refine hN.out _<|Nx.mk (k + 1) (by simp [*]) ⟨by omega,?_⟩ (by omega); simpa (disch:=omega) [*,decide_eq_true,decide_eq_false,dY] using hi.out)
    | (first | simpa (disch:=omega) [*,decide_eq_true,decide_eq_false,dY] using hi.out.symm | simpa (disch:=omega) [*,decide_eq_true,decide_eq_false,dY] using hi.out)
end Go.Abs.F
