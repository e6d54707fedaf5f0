/-
  Plain: the texts that are right: the document's answer and the program's. No program in sight. No condition.
  What the program's functions for texts, patterns, rules and places answer. No condition.
  Plain: the labels of two policies; turned round they are the same, with One and Two changed; of a policy and itself none tells the two apart. No program in sight. No condition.
  What the program's functions for labels answer: names, rules found, texts with a star. No condition.
  What slices.Concat of two rows of texts answers: a new row. No condition.
  What cells.Example answers: the example of a name that counts. No condition.
  What cells.Counts answers: the names that count. No condition.
  What cells.Values answers: the least values of the four kinds. No condition.
  What cells.Values answers: the least values of the four kinds (the walk). No condition.
  What cells.attributes answers: the labels of one name that counts. No condition.
-/
import Derived.Test.YtloaikaippankaaGreatDoorTF1
import Derived.Lib.MapLaws
import Derived.Lib.TrimUEq
import Derived.Lib.ValidU
import Derived.Test.YtloaikaippankaaGreatDoorTW0
import Derived.Lib.IndexMore
import Derived.Test.YtloaikaippankaaGreatDoorTP7
import Derived.Test.YtloaikaippankaaGreatDoorTTh7
set_option linter.unusedVariables false
set_option linter.unusedSimpArgs false
set_option linter.unusedSectionVars false
section
set_option maxHeartbeats 4000000
set_option maxRecDepth 100000
namespace Go.Abs.F
open Go.Proofs
end Go.Abs.F

end
section
set_option maxHeartbeats 4000000
set_option maxRecDepth 100000
namespace Go.Abs.F
open Go.Proofs
attribute [-simp] getElem?_pos Option.not_isSome List.map_map
theorem d1 (s:Str):Fn Tryz.prog eG [.str s,.str [42]] (.bool (dX s).2):=by
 refine Fn.of_image mixed fc eU rfl fun ho=>?_
 unfold cb
 simp only [oks,ok,and_true] at ho
 by_cases hp:0 < s.length
 · obtain ⟨x,hx⟩:=ap (l:=s) (k:=s.length - 1) (by omega)
   have hd:s.drop (s.length - 1)=[x]:=by
    rw [List.drop_eq_getElem_cons (by omega)]
    have:s[s.length - 1]?=some (s[s.length - 1]'(by omega)):=List.getElem?_eq_getElem _
    rw [this] at hx
    cases hx
    have:s.drop (s.length - 1 + 1)=[]:=by rw [List.drop_eq_nil_iff]; omega
    rw [this]
   have e:((s.length:Int) - 1).toNat=s.length - 1:=by omega
   have hst:(dX s).2=decide (x=42):=by
    simp only [dX,hx]
    by_cases h:x.toNat=42
    · have:x=42:=by apply UInt8.toNat_inj.1; simpa using h
      simp [this]
    · have:¬x=42:=by rintro rfl; simp at h
      simp [h,this]
   rw [hst]
   simp (disch:=omega) [-List.reduceReplicate,e,hd]
   repeat' (first | (refine BrKd.mk (fun h=>?_) (fun h=>?_)<;>simp (disch:=omega) [*]) | (refine BrK.mk (fun h=>?_) (fun h=>?_)<;>simp (disch:=omega) [*]))
   all_goals first
    | omega
    | (have e1:s.length - (s.length - 1)=1:=by omega
       simp [*,e1])
 · have:s=[]:=by cases s; rfl; simp at hp
   subst this
   simp (disch:=omega) [-List.reduceReplicate,dX]
theorem jY (s:Str):Fn Tryz.prog eI [.str s,.str [42]] (.tup [.str (dX s).1,.bool (dX s).2]):=by
 refine Fn.of_image mixed fe eW rfl fun ho=>?_
 unfold cd
 simp only [oks,ok,and_true] at ho
 simp (disch:=omega) [-List.reduceReplicate]
 refine ae (d1 s) rfl fun _=>?_
 simp (disch:=omega) [-List.reduceReplicate]
 refine BrK.mk (fun h=>?_) (fun h=>?_)
 · have hp:0 < s.length:=by
    cases s with
    | nil=>simp [dX] at h
    | cons _ _=>simp
   have e:((s.length:Int) - 1).toNat=s.length - 1:=by omega
   have c1:1≤s.length:=hp
   have c2:(s.length:Int) - 1≤s.length:=by omega
   have hst:dX s=(s.take (s.length - 1),true):=by
    cases hx:s[s.length - 1]? with
    | none=>simp [dX,hx] at h
    | some x=>by_cases hc:x.toNat=42<;>simp [dX,hx,hc] at h ⊢
   simp (disch:=omega) [-List.reduceReplicate,hst,e,c1,c2]
 · have hst:dX s=(s,false):=by
    cases hx:s[s.length - 1]? with
    | none=>simp [dX,hx]
    | some x=>by_cases hc:x.toNat=42<;>simp [dX,hx,hc] at h ⊢
   simp (disch:=omega) [-List.reduceReplicate,hst]
theorem nP (s:Str):Fn Tryz.prog pf [.str s,.str [42]] (.tup [.str (dX s).1,.bool (dX s).2]):=by
 refine Fn.of_image mixed px pm rfl fun ho=>?_
 unfold hO
 simp only [oks,ok,and_true] at ho
 simp (disch:=omega) [-List.reduceReplicate]
 refine ae (jY s) rfl fun _=>?_
 simp (disch:=omega) [-List.reduceReplicate]
theorem tW (s:Str):Fn Tryz.prog tw [.str s] (.tup [.str (dX s).1,.bool (dX s).2,.bool (plain (dX s).1)]):=by
 refine Fn.of_image mixed tJ tE rfl fun ho=>?_
 unfold kI
 simp only [oks,ok,and_true] at ho
 simp (disch:=omega) [-List.reduceReplicate]
 refine ae (nP s) rfl fun _=>?_
 simp (disch:=omega) [-List.reduceReplicate]
 refine ae (xL _) rfl fun _=>?_
 simp (disch:=omega) [-List.reduceReplicate]
theorem Ff (s:Str):ow s s=true:=by simp [ow]
theorem pT (pat nm:Str):Fn Tryz.prog yL [.str pat,.str nm] (.bool (fits pat nm)):=by
 refine Fn.of_image mixed zF zf rfl fun ho=>?_
 unfold p9
 simp only [oks,ok,and_true] at ho
 simp (disch:=omega) [-List.reduceReplicate,fits]
 refine ae (tW pat) rfl fun _=>?_
 generalize (dX pat).1=a at *
 generalize (dX pat).2=b at *
 simp (disch:=omega) [-List.reduceReplicate]
 repeat' (first | (refine BrKd.mk (fun h=>?_) (fun h=>?_)<;>simp (disch:=omega) [*]) | (refine BrK.mk (fun h=>?_) (fun h=>?_)<;>simp (disch:=omega) [*]) | (refine ae (gY _ _) rfl (fun _=>?_)<;>simp (disch:=omega) [*]) | (refine aN (gY _ _) rfl ?_<;>simp (disch:=omega) [*]))
 all_goals simp [Ff, *]
theorem zZ (e:Allowed) (s:Str):Fn Tryz.prog yK [e.v,.str s] (.tup [((gX e.rules s).getD .zero).v,.bool (gX e.rules s).isSome]):=by
 refine Fn.of_image mixed zE ze rfl fun ho=>?_
 unfold p8
 simp only [oks,ok,and_true] at ho
 have hlen:e.rules.length≤140737488355328:=by have:=ho.1; simp at this; exact this.2.2.1
 clear ho
 simp (disch:=omega) [-List.reduceReplicate]
 generalize hr:gX e.rules s=r
 refine ak (fun k:Nat=>⟨[(1,.str s),(4,.ptr 0 0),(9,.seq 5 (e.rules.map Rule.v)),(10,.int .i64 e.rules.length),(11,.int .i64 k)],[some (.box [.str [],.int .i64 0,.nil 1,.str [],.bool false])]⟩) (fun k=>k≤e.rules.length∧gX (e.rules.drop k) s=r) (fun k=>e.rules.length - k) [] _ 0 rfl (by simp [*]) (by simp [*]) ?_
 rintro k ⟨hk,hi⟩ N hN
 rcases place e.rules k hk with ⟨he,hd⟩ | ⟨hlt,x,hx,hd⟩<;>rw [hd] at hi<;>replace hi:=hid hi
 · simp (disch:=omega) [-List.reduceReplicate,he]
   simp [←hi.out,gX,Rule.zero]
 · simp (disch:=omega) [-List.reduceReplicate,hx]
   refine ae (pT _ _) rfl fun _=>?_
   simp (disch:=omega) [-List.reduceReplicate]
   refine BrK.mk (fun h=>?_) (fun h=>?_)
   · simp (disch:=omega) [-List.reduceReplicate,hx]
     have hi:=hi.out
     simp [gX,h] at hi
     subst hi
     simp
   · simp (disch:=omega) [-List.reduceReplicate]
     refine hN.out _<|Nx.mk (k + 1) (by simp [*]) ⟨by omega,?_⟩ (by omega)
     have hi:=hi.out
     simpa [gX,h] using hi
structure Label where
 kind:Int
 element:Str
 name:Str
 many:Bool
 value:Str
 one:Bool
 two:Bool
 deriving DecidableEq
def Label.v (l:Label):V:=.strct [.int .i64 l.kind,.str l.element,.str l.name,.bool l.many,.str l.value,.bool l.one,.bool l.two]
def Label.swap (l:Label):Label:={ l with one:=l.two,two:=l.one }
def c5 (s:Str):Bool:=(dX s).2
def aE (p:Policy) (el:Str):List Rule:=((bX p.elements el).getD .zero).rules
def bq (p q:Policy) (el:Str):List Str:=
 sd (((aE p el++aE q el).map Rule.name).filter fun s=>!c5 s)++sd (((aE p el++aE q el).map Rule.name).filter c5)
def pN (l:List Str) (name ex:Str):Bool:=l.all fun o=>!((!c5 o && decide (o=ex)) || ((c5 o && decide (name.length < o.length)) && fits o ex))
def Hi:Str:=[48,49,50,51,52,53,54,55,56,57,97,98,99,100,101,102,103,104,105,106,107,108,109,110,111,112,113,114,115,116,117,118,119,120,121,122,45]
def Ms (l:List Str) (name st:Str):Str→Str
 | []=>[]
 | b::r=>if pN l name (st++[b]) then st++[b] else Ms l name st r
def a8 (l:List Str) (name:Str):Str:=
 if c5 name then (if pN l name (name.take (name.length - 1)) then name.take (name.length - 1) else Ms l name (name.take (name.length - 1)) Hi) else name
def dJ (p:Policy) (el nm:Str):Option Constraint:=(gX (aE p el) nm).map Rule.value
def cD (p:Policy) (el nm s:Str):Bool:=match dJ p el nm with
 | some c=>allows12 c s
 | none=>false
def jS (f g:Str→Bool) (f1 f2:Bool):Option (List Nat)→Prop
 | none=>∀ s:Str,dp s→f s=f1→g s=f2→False
 | some w=>(∀ u∈w,u < 95)∧f (aT w)=f1∧g (aT w)=f2∧∀ s:Str,dp s→f s=f1→g s=f2→¬ue s (aT w)
open Classical in
noncomputable def kH (f g:Str→Bool) (f1 f2:Bool):Option (List Nat):=if h:∃ r,jS f g f1 f2 r then Classical.choose h else none
theorem nO (s:Str):Fn Tryz.prog pd [.str s,.str [42]] (.bool (c5 s)):=by
 refine Fn.of_image mixed pt pj rfl fun ho=>?_
 unfold g8
 simp only [oks,ok,and_true] at ho
 simp (disch:=omega) [-List.reduceReplicate,c5]
 refine ae (d1 s) rfl fun _=>?_
 simp (disch:=omega) [-List.reduceReplicate]
theorem fj (s:Str):Fn Tryz.prog Cc [.str s] (.bool (c5 s)):=by
 refine Fn.of_image mixed C1 CH rfl fun ho=>?_
 unfold sZ
 simp only [oks,ok,and_true] at ho
 simp (disch:=omega) [-List.reduceReplicate]
 refine ae (nO s) rfl fun _=>?_
 simp (disch:=omega) [-List.reduceReplicate]
theorem pZ (p:Policy) (s:Str):Fn Tryz.prog yW [p.v,.str s] ((bX p.elements s).getD .zero).v:=by
 refine Fn.of_image mixed zS zt rfl fun ho=>?_
 unfold qo
 simp only [oks,ok,and_true] at ho
 clear ho
 simp (disch:=omega) [-List.reduceReplicate]
 refine aj (pU p s) (by simp) fun _=>?_
 simp (disch:=omega) [-List.reduceReplicate]
theorem iy (p:Policy) (el nm:Str):Fn Tryz.prog Cb [p.v,.str el,.str nm] (.tup [((dJ p el nm).getD ⟨0,[],[]⟩).v,.bool (dJ p el nm).isSome]):=by
 refine Fn.of_image mixed C0 CG rfl fun ho=>?_
 unfold sY
 simp only [oks,ok,and_true] at ho
 clear ho
 simp (disch:=omega) [-List.reduceReplicate]
 refine aj (pU p el) (by simp) fun _=>?_
 simp (disch:=omega) [-List.reduceReplicate,dJ,aE]
 refine BrK.mk (fun h=>?_) (fun h=>?_)
 · simp (disch:=omega) [-List.reduceReplicate]
   refine aj (zZ ((bX p.elements el).getD .zero) nm) (by simp) fun _=>?_
   simp (disch:=omega) [-List.reduceReplicate]
   cases gX ((bX p.elements el).getD .zero).rules nm<;>simp [Rule.zero]
 · have:bX p.elements el=none:=by simpa using h
   simp (disch:=omega) [-List.reduceReplicate,this,Allowed.zero,gX]
theorem nR (p:Policy) (hp:p.elements.length≤1000):Fn Tryz.prog wS [p.v] (.seq 1 ((srt (p.elements.map Allowed.name)).map .str)):=by
 refine Fn.of_imageE mixed xr xe rfl fun ho=>?_
 unfold n9
 simp only [oks,ok,and_true] at ho
 clear ho
 simp (disch:=omega) [-List.reduceReplicate]
 refine ak (fun k:Nat=>⟨[(3,.ref 0 k),(7,.seq 3 (p.elements.map Allowed.v)),(8,.int .i64 p.elements.length),(9,.int .i64 k)],[some (.arr au 1 (((p.elements.take k).map Allowed.name).map .str))]⟩) (fun k=>k≤p.elements.length) (fun k=>p.elements.length - k) [.r 3 au 1] _ 0 rfl (by simp [*]) (by simp) ?_
 rintro k hk N hN
 rcases Nat.lt_or_ge k p.elements.length with hlt | hge
 · obtain ⟨x,hx⟩:=ap hlt
   simp (disch:=omega) [-List.reduceReplicate,hx]
   exact hN.out _<|Nx.mk (k + 1) (by simp [List.take_add_one,hx]) (by omega) (by omega)
 · obtain rfl:k=p.elements.length:=by omega
   simp (disch:=omega) [-List.reduceReplicate]
   have hso:=fX (p.elements.map Allowed.name) (by simp; omega)
   simp only [List.length_map] at hso
   refine ah [0] 1 [0] (by simp) (by simp) (by simp) (by simp) hso (by simp) fun _ _=>?_
   have hsl:(srt (p.elements.map Allowed.name)).length=p.elements.length:=by rw [de]; simp
   simp (disch:=omega) [-List.reduceReplicate,hsl]
theorem vz (a b:List Str) (h:a.length + b.length≤1000000):
 FnH Tryz.prog fE [] [.seq 1 [.seq 1 (a.map .str),.seq 1 (b.map .str)]] [] (.ref 0 (a++b).length) [some (.arr au 1 ((a++b).map .str))]:=by
 refine FnH.of_image mixed fJ fI rfl fun ho hh=>?_
 unfold cB
 clear ho hh
 simp (disch:=omega) [-List.reduceReplicate]
 refine ak (fun k:Nat=>⟨[(0,.seq 1 [.seq 1 (a.map .str),.seq 1 (b.map .str)]),(3,.int .i64 (if k=0 then 0 else if k=1 then (a.length:Int) else (a.length + b.length:Nat))),(9,.seq 1 [.seq 1 (a.map .str),.seq 1 (b.map .str)]),(10,.int .i64 2),(11,.int .i64 k)],[]⟩) (fun k=>k≤2) (fun k=>2 - k) [] _ 0 rfl (by simp) (by simp) ?_
 rintro k hk N hN
 have h3:k=0∨k=1∨k=2:=by omega
 rcases h3 with rfl | rfl | rfl
 · simp (disch:=omega) [-List.reduceReplicate]
   exact hN.out _<|Nx.mk 1 (by simp) (by omega) (by omega)
 · simp (disch:=omega) [-List.reduceReplicate]
   exact hN.out _<|Nx.mk 2 (by simp) (by omega) (by omega)
 · simp (disch:=omega) [-List.reduceReplicate]
   refine ah [] 0 [] (by simp) (by simp) (by simp) (by simp) (zW (a.length + b.length) h) (by simp) fun _ _=>?_
   simp (disch:=omega) [-List.reduceReplicate]
   refine ak (fun k:Nat=>⟨[(6,.ref 0 (if k=0 then 0 else if k=1 then a.length else a.length + b.length)),(25,.seq 1 [.seq 1 (a.map .str),.seq 1 (b.map .str)]),(26,.int .i64 2),(27,.int .i64 k)],[some (.arr au 1 ((if k=0 then [] else if k=1 then a else a++b).map .str))]⟩) (fun k=>k≤2) (fun k=>2 - k) [] _ 0 rfl (by simp) (by simp) ?_
   rintro k hk N hN
   have h3:k=0∨k=1∨k=2:=by omega
   rcases h3 with rfl | rfl | rfl
   · simp (disch:=omega) [-List.reduceReplicate]
     exact hN.out _<|Nx.mk 1 (by simp) (by omega) (by omega)
   · simp (disch:=omega) [-List.reduceReplicate]
     exact hN.out _<|Nx.mk 2 (by simp) (by omega) (by omega)
   · simp (disch:=omega) [-List.reduceReplicate]
theorem jM (l:List Str) (hl:l.length≤1000000) (name ex:Str):FnH Tryz.prog jI [1,2] [.str ex,.ptr 0 0,.ptr 1 0] [some (.box [.seq 1 (l.map .str)]),some (.box [.str name])] (.bool (pN l name ex)) [some (.box [.seq 1 (l.map .str)]),some (.box [.str name])]:=by
 refine FnH.of_image mixed sn si rfl fun ho hh=>?_
 unfold jR
 clear ho hh
 simp (disch:=omega) [-List.reduceReplicate]
 obtain ⟨R,hR⟩:∃ R,R=pN l name ex:=⟨_,rfl⟩
 rw [←hR]
 refine ak (fun k:Nat=>⟨[(0,.str ex),(1,.ptr 0 0),(2,.ptr 1 0),(7,.seq 1 (l.map .str)),(8,.int .i64 l.length),(9,.int .i64 k)],[some (.box [.seq 1 (l.map .str)]),some (.box [.str name])]⟩) (fun k=>k≤l.length∧pN (l.drop k) name ex=R) (fun k=>l.length - k) [] _ 0 rfl (by simp) (by simp [hR]) ?_
 rintro k ⟨hk,hi⟩ N hN
 rcases place l k hk with ⟨he,hd⟩ | ⟨hlt,x,hx,hd⟩<;>rw [hd] at hi<;>replace hi:=hid hi
 · simp (disch:=omega) [-List.reduceReplicate,he]
   have hi:=hi.out
   simpa [pN] using hi
 · simp (disch:=omega) [-List.reduceReplicate,hx]
   refine ae (fj x) rfl fun _=>?_
   simp (disch:=omega) [-List.reduceReplicate]
   have hi:=hi.out
   simp only [pN,List.all_cons] at hi
   replace hi:=hid hi
   repeat' (first
    | (refine BrKd.mk (fun h=>?_) (fun h=>?_)<;>simp (disch:=omega) [*])
    | (refine BrK.mk (fun h=>?_) (fun h=>?_)<;>simp (disch:=omega) [*])
    | (refine ae (fj x) rfl (fun _=>?_)<;>simp (disch:=omega) [*])
    | (refine ae (pT x ex) rfl (fun _=>?_)<;>simp (disch:=omega) [*]))
   all_goals first
    | (refine hN.out _<|Nx.mk (k + 1) (by simp [*]) ⟨by omega,?_⟩ (by omega); have hi:=hi.out; simpa (disch:=omega) [*,pN] using hi)
    | (have hi:=hi.out; simpa (disch:=omega) [*] using hi)
    | (subst_vars; have hi:=hi.out; simpa (disch:=omega) [*] using hi)
theorem Je {s:Str} (h:c5 s=true):0 < s.length:=by
 cases s with
 | nil=>simp [c5,dX] at h
 | cons _ _=>simp
theorem E9:∀ k,k < 37→xY Hi k=((Hi.getD k 0).toNat,1):=by decide
theorem gN (l:List Str) (hl:l.length≤1000000) (name:Str):Fn Tryz.prog vg [.seq 1 (l.map .str),.str name] (.str (a8 l name)):=by
 refine Fn.of_imageE mixed vv vm rfl fun ho=>?_
 unfold mt
 simp only [oks,ok,and_true] at ho
 have hnl:name.length≤4611686018427387904:=by have:=ho.2; omega
 clear ho
 simp (disch:=omega) [-List.reduceReplicate]
 refine ae (fj name) rfl fun _=>?_
 simp (disch:=omega) [-List.reduceReplicate]
 refine BrK.mk (fun h=>?_) (fun h=>?_)
 · have hp:=Je h
   have c1:((name.length:Int) - 1).toNat=name.length - 1:=by omega
   have c2:1≤name.length:=hp
   have c3:(name.length:Int) - 1≤name.length:=by omega
   simp (disch:=omega) [-List.reduceReplicate,c1,c2,c3]
   refine ah [1,2] 2 [0,1] (by simp) (by simp) (by simp) (by simp) (jM l hl name (name.take (name.length - 1))) (by simp) fun _ _=>?_
   simp (disch:=omega) [-List.reduceReplicate]
   refine BrK.mk (fun h2=>?_) (fun h2=>?_)
   · simp (disch:=omega) [-List.reduceReplicate,a8,h,h2]
   · simp (disch:=omega) [-List.reduceReplicate]
     have h2':pN l name (name.take (name.length - 1))=false:=by simpa using h2
     obtain ⟨R,hR⟩:∃ R,R=a8 l name:=⟨_,rfl⟩
     rw [←hR]
     rw [a8,if_pos h,h2'] at hR
     simp only [Bool.false_eq_true,if_false] at hR
     obtain ⟨st,hst⟩:∃ st,st=name.take (name.length - 1):=⟨_,rfl⟩
     rw [←hst] at hR
     have hb:Hi.length=37:=rfl
     obtain ⟨B,hB⟩:∃ B,B=Hi:=⟨_,rfl⟩
     have hdc:=E9
     rw [←hB] at hR hb hdc
     have hB2:([48,49,50,51,52,53,54,55,56,57,97,98,99,100,101,102,103,104,105,106,107,108,109,110,111,112,113,114,115,116,117,118,119,120,121,122,45]:Str)=B:=by rw [hB]; rfl
     have hlt:∀ x∈B,x.toNat < 128:=by rw [hB]; decide
     clear hB
     rw [hB2,←hst]
     refine ak (fun k:Nat=>⟨[(5,.fn (.func jI) [] [.ptr 0 0,.ptr 1 0]),(6,.str st),(23,.ref 2 0)],[some (.box [.seq 1 (l.map .str)]),some (.box [.str name]),some (.itr B k)]⟩) (fun k=>k≤37∧Ms l name st (B.drop k)=R) (fun k=>37 - k) [] _ 0 rfl (by simp) (by simp [hR]) ?_
     rintro k ⟨hk,hi⟩ N hN
     by_cases hk2:k < 37
     · obtain ⟨b,hx⟩:=ap (l:=B) (k:=k) (by omega)
       have hd:B.drop k=b::B.drop (k + 1):=by
        rw [List.drop_eq_getElem_cons (by omega)]
        have:B[k]?=some (B[k]'(by omega)):=List.getElem?_eq_getElem _
        rw [this] at hx
        cases hx
        rfl
       have hdk:=hdc k hk2
       have hgb:B.getD k 0=b:=by simp [List.getD,hx]
       rw [hgb] at hdk
       have hb8:=hlt b (List.mem_of_getElem? hx)
       rw [hd] at hi
       simp only [Ms] at hi
       replace hi:=hid hi
       have hsl:st.length + 1≤4611686018427387904:=by rw [hst]; simp; omega
       have e1:UInt8.ofNat ((b.toNat:Int)).toNat=b:=by simp
       have e2:KN (b.toNat:Int)=some (.str [b]):=by rw [Hw (by omega) (by omega),e1]
       simp (disch:=omega) [-List.reduceReplicate,hb,hk2,hdk,e2]
       refine ah [1,2] 2 [0,1] (by simp) (by simp) (by simp) (by simp) (jM l hl name (st++[b])) (by simp) fun _ _=>?_
       simp (disch:=omega) [-List.reduceReplicate]
       refine BrK.mk (fun h3=>?_) (fun h3=>?_)
       · simp (disch:=omega) [-List.reduceReplicate,e2]
         have hi:=hi.out
         simpa [h3] using hi
       · simp (disch:=omega) [-List.reduceReplicate]
         have hi:=hi.out
         have h3':pN l name (st++[b])=false:=by simpa using h3
         rw [h3'] at hi
         exact hN.out _<|Nx.mk (k + 1) (by simp) ⟨by omega,by simpa using hi⟩ (by omega)
     · obtain rfl:k=37:=by omega
       simp (disch:=omega) [-List.reduceReplicate,hb]
       have:B.drop 37=[]:=List.drop_of_length_le (by omega)
       rw [this] at hi
       simpa [Ms] using hi
 · have h':c5 name=false:=by simpa using h
   simp (disch:=omega) [-List.reduceReplicate,a8,h']
def cw (l:List Rule):List Str:=(l.map Rule.name).filter fun s=>!c5 s
def eh (l:List Rule):List Str:=(l.map Rule.name).filter c5
theorem F6 (l:List Rule) (r:Rule):cw (l++[r])=if c5 r.name then cw l else cw l++[r.name]:=by
 unfold cw; cases h:c5 r.name<;>simp [h]
theorem IZ (l:List Rule) (r:Rule):eh (l++[r])=if c5 r.name then eh l++[r.name] else eh l:=by
 unfold eh; cases h:c5 r.name<;>simp [h]
theorem qD (l:List Rule):(cw l).length≤l.length:=by unfold cw; exact Nat.le_trans (List.length_filter_le _ _) (by simp)
theorem tu (l:List Rule):(eh l).length≤l.length:=by unfold eh; exact Nat.le_trans (List.length_filter_le _ _) (by simp)
theorem t7 (l:List Str):(dd l).length≤l.length:=by
 cases l with
 | nil=>simp [dd]
 | cons x r=>
   have:∀ (r:List Str) (p:Str),(kE p r).length≤r.length:=fun r=>by
    induction r with
    | nil=>intro p; simp [kE]
    | cons y r ih=>intro p; simp only [kE]; split<;>simp<;>have:=ih p<;>have:=ih y<;>omega
   simpa [dd] using this r x
theorem xS (p q:Policy) (el:Str) (hp:(aE p el).length≤1000) (hq:(aE q el).length≤1000):Fn Tryz.prog wY [p.v,q.v,.str el] (.seq 1 ((bq p q el).map .str)):=by
 refine Fn.of_imageE mixed xB xm rfl fun ho=>?_
 unfold ou
 simp only [oks,ok,and_true] at ho
 clear ho
 simp (disch:=omega) [-List.reduceReplicate]
 refine aF (pZ p el) (by simp) ?_
 simp (disch:=omega) [-List.reduceReplicate]
 refine aF (pZ q el) (by simp) ?_
 have hc:bq p q el=sd (cw (aE p el++aE q el))++sd (eh (aE p el++aE q el)):=rfl
 rw [hc]
 simp only [aE] at *
 generalize (bX p.elements el).getD .zero=a at *
 generalize (bX q.elements el).getD .zero=b at *
 clear hc
 simp (disch:=omega) [-List.reduceReplicate]
 obtain ⟨es,hes⟩:∃ es,es=[a,b]:=⟨_,rfl⟩
 have he2:es.length=2:=by rw [hes]; rfl
 have hfl:a.rules++b.rules=es.flatMap Allowed.rules:=by rw [hes]; simp
 have her:∀ e∈es,e.rules.length≤1000:=by rw [hes]; simp; exact ⟨hp,hq⟩
 have hV:([a.v,b.v]:List V)=es.map Allowed.v:=by rw [hes]; rfl
 rw [hfl]
 simp only [Allowed.v] at hV
 refine ak (fun k:Nat=>⟨[(7,.ref 0 (cw ((es.take k).flatMap Allowed.rules)).length),(8,.ref 1 (eh ((es.take k).flatMap Allowed.rules)).length),(19,.seq 3 (es.map Allowed.v)),(20,.int .i64 2),(21,.int .i64 k)],[some (.arr au 1 ((cw ((es.take k).flatMap Allowed.rules)).map .str)),some (.arr au 1 ((eh ((es.take k).flatMap Allowed.rules)).map .str))]⟩)
  (fun k=>k≤2) (fun k=>2 - k) [.r 7 au 1,.r 8 au 1] _ 0 rfl (by rw [←hV]; simp [cw,eh]) (by simp) ?_
 clear hV
 rintro k hk N hN
 have hpre:((es.take k).flatMap Allowed.rules).length≤1000 * k:=by
  have:∀ (m:Nat),((es.take m).flatMap Allowed.rules).length≤1000 * m:=fun m=>by
   induction m with
   | zero=>simp
   | succ m ih=>
     rw [List.take_add_one]
     cases hx:es[m]? with
     | none=>simp; simp at ih; omega
     | some e=>
       have:=her e (List.mem_of_getElem? hx)
       simp
       simp at ih
       omega
  exact this k
 rcases Nat.lt_or_ge k 2 with hlt | hge
 · obtain ⟨e,he⟩:=ap (l:=es) (k:=k) (by omega)
   have hel:=her e (List.mem_of_getElem? he)
   have htk:(es.take (k + 1)).flatMap Allowed.rules=(es.take k).flatMap Allowed.rules++e.rules:=by simp [List.take_add_one,he]
   generalize (es.take k).flatMap Allowed.rules=pre at *
   simp (disch:=omega) [-List.reduceReplicate,he]
   refine ak (fun j:Nat=>⟨[(7,.ref 0 (cw (pre++e.rules.take j)).length),(8,.ref 1 (eh (pre++e.rules.take j)).length),(19,.seq 3 (es.map Allowed.v)),(20,.int .i64 2),(21,.int .i64 k),(26,.seq 5 (e.rules.map Rule.v)),(27,.int .i64 e.rules.length),(28,.int .i64 j)],[some (.arr au 1 ((cw (pre++e.rules.take j)).map .str)),some (.arr au 1 ((eh (pre++e.rules.take j)).map .str))]⟩)
    (fun j=>j≤e.rules.length) (fun j=>e.rules.length - j) [] _ 0 rfl (by simp) (by simp) ?_
   rintro j hj N' hN'
   have g1:=qD (pre++e.rules.take j)
   have g2:=tu (pre++e.rules.take j)
   simp only [List.length_append,List.length_take] at g1 g2
   rcases Nat.lt_or_ge j e.rules.length with hlt2 | hge2
   · obtain ⟨x,hx⟩:=ap hlt2
     have ht2:pre++e.rules.take (j + 1)=(pre++e.rules.take j)++[x]:=by simp [List.take_add_one,hx]
     have p1:=F6 (pre++e.rules.take j) x
     have p2:=IZ (pre++e.rules.take j) x
     rw [←ht2] at p1 p2
     generalize cw (pre++e.rules.take j)=P1 at *
     generalize eh (pre++e.rules.take j)=P2 at *
     simp (disch:=omega) [-List.reduceReplicate,hx]
     refine ae (fj x.name) rfl fun _=>?_
     simp (disch:=omega) [-List.reduceReplicate]
     refine BrK.mk (fun h=>?_) (fun h=>?_)
     · rw [if_pos h] at p1 p2
       simp (disch:=omega) [-List.reduceReplicate]
       exact hN'.out _<|Nx.mk (j + 1) (by simp [p1,p2]) (by omega) (by omega)
     · have h':c5 x.name=false:=by simpa using h
       rw [h'] at p1 p2
       simp only [Bool.false_eq_true,if_false] at p1 p2
       simp (disch:=omega) [-List.reduceReplicate]
       exact hN'.out _<|Nx.mk (j + 1) (by simp [p1,p2]) (by omega) (by omega)
   · obtain rfl:j=e.rules.length:=by omega
     simp only [List.take_length] at *
     simp (disch:=omega) [-List.reduceReplicate]
     exact hN.out _<|Nx.mk (k + 1) (by simp [htk]) (by omega) (by omega)
 · obtain rfl:k=2:=by omega
   have hta:es.take 2=es:=List.take_of_length_le (by omega)
   rw [hta] at hpre ⊢
   generalize es.flatMap Allowed.rules=rs at *
   have g1:=qD rs
   have g2:=tu rs
   have k1:=t7 (srt (cw rs))
   have k2:=t7 (srt (eh rs))
   have s1:=fX (cw rs) (by omega)
   have s2:=fX (eh rs) (by omega)
   have c1:=fL (srt (cw rs)) (by rw [de]; omega)
   have c2:=fL (srt (eh rs)) (by rw [de]; omega)
   rw [de] at c1 c2 k1 k2
   have l1:=de (cw rs)
   have l2:=de (eh rs)
   simp only [sd]
   generalize cw rs=A at *
   generalize eh rs=B at *
   simp (disch:=omega) [-List.reduceReplicate]
   refine ah [0] 1 [0] (by simp) (by simp) (by simp) (by simp) s1 (by simp) fun _ _=>?_
   simp (disch:=omega) [-List.reduceReplicate]
   refine ah [0] 1 [1] (by simp) (by simp) (by simp) (by simp) s2 (by simp) fun _ _=>?_
   simp (disch:=omega) [-List.reduceReplicate]
   refine ah [] 0 [0] (by simp) (by simp) (by simp) (by simp) c1 (by simp) fun _ _=>?_
   simp (disch:=omega) [-List.reduceReplicate,l1,l2]
   refine ah [] 0 [1] (by simp) (by simp) (by simp) (by simp) c2 (by simp) fun _ _=>?_
   simp (disch:=omega) [-List.reduceReplicate,l1,l2]
end Go.Abs.F
end
section
set_option maxHeartbeats 4000000
set_option maxRecDepth 100000
namespace Go.Abs.F
open Go.Proofs Go.Aut
attribute [-simp] getElem?_pos Option.not_isSome List.map_map
structure AccF (f:Str→Bool) (a:Aut):Prop where
 ok:a.ok
 n:a.n≤500
 acc:∀ w:List Nat,(∀ u∈w,u < 95)→a.F (w.foldl a.δ 0)=f (aT w)
theorem AccF.flip {f:Str→Bool} {a:Aut} (h:AccF f a) {w:List Nat} (hw:∀ u∈w,u < 95) (b:Bool):(flip b a).F (w.foldl a.δ 0)=true↔f (aT w)=b:=by
 rw [Mk h.ok (BE h.ok w h.ok.pos hw),h.acc w hw]
theorem Pm {c:Constraint} {x:Rx} {a:Aut} (hc:GoodC c x) (ha:jT x a):AccF (allows12 c) a:=
 ⟨ha.ok.1,ha.ok.2,fun w hw=>Fe (by have:=Hp hc ha hw true; simpa [Go.Abs.flip] using this)⟩
def lz:Aut:=⟨[List.replicate 95 0],[false]⟩
theorem JQ:lz.ok:=by
 refine ⟨by decide,by decide,?_⟩
 intro r hr
 simp [lz] at hr
 subst hr
 first | decide | (refine ⟨by simp,?_⟩; intro q hq; simp at hq; simp [hq,lz,Aut.n])
theorem Mz (q:Nat):lz.F q=false:=by
 show fin [false] q=false
 cases q<;>simp [fin]
theorem Hq:AccF (fun _=>false) lz:=⟨JQ,by decide,fun w hw=>Mz _⟩
theorem Dj (b:Bool):Fn Tryz.prog B9 [.bool b] (.strct (ox [List.replicate 95 0] [b])):=by
 refine Fn.of_image mixed CU CA rfl fun ho=>?_
 unfold sS
 simp only [oks,ok,and_true] at ho
 clear ho
 simp (disch:=omega) [-List.reduceReplicate,ox]
 simp [zV]
theorem EX:Fn Tryz.prog Ed [] (.strct (ox [List.replicate 95 0] [false])):=by
 refine Fn.of_image mixed EG EA rfl fun ho=>?_
 unfold u4
 simp only [oks,ok,and_true] at ho
 clear ho
 simp (disch:=omega) [-List.reduceReplicate]
 refine aj (Dj false) (by simp) fun _=>?_
 simp (disch:=omega) [-List.reduceReplicate,ox]
theorem sL {f g:Str→Bool} {a b:Aut} (ha:AccF f a) (hb:AccF g b) (f1 f2:Bool):
 ∃ r,Fn Tryz.prog lg [.strct (Aut.c (Go.Abs.flip f1 a)),.strct (Aut.c (Go.Abs.flip f2 b))] (o9 r)∧jS f g f1 f2 r∧∀ w,r=some w→w.length < 250001:=by
 obtain ⟨r,hr,hI⟩:=HK (d4 (f:=f1) ha.ok) (d4 (f:=f2) hb.ok) fun x y=>x && y
 have hfn:=sI (d4 (f:=f1) ha.ok) (d4 (f:=f2) hb.ok) (by rw [nN]; exact ha.n) (by rw [nN]; exact hb.n) r hr
 have key:∀ w:List Nat,(∀ u∈w,u < 95)→(fK (Go.Abs.flip f1 a) (Go.Abs.flip f2 b) (fun x y=>x && y) (w.foldl (cf (Go.Abs.flip f1 a) (Go.Abs.flip f2 b)) (0,0))=true↔(f (aT w)=f1∧g (aT w)=f2)):=fun w hw=>by
  rw [wn,fK,C4,C4,Bool.and_eq_true,ha.flip hw,hb.flip hw]
 refine ⟨r,hfn,?_,fun w hw=>?_⟩
 · cases r with
   | none=>
     intro s hs k1 k2
     have h3:=hI (sw s) (jC hs)
     have h4:=(key (sw s) (jC hs)).2 (by rw [kg hs]; exact ⟨k1,k2⟩)
     rw [h4] at h3; cases h3
   | some w=>
     obtain ⟨k1,k2⟩:=(key w hI.1).1 hI.2.1
     refine ⟨hI.1,k1,k2,fun s hs g1 g2 hah=>?_⟩
     exact hI.2.2 (sw s) (jC hs) ((key (sw s) (jC hs)).2 (by rw [kg hs]; exact ⟨g1,g2⟩)) (Bw hs hI.1 hah)
 · subst hw
   have hab:a.n * b.n≤250000:=Nat.le_trans (Nat.mul_le_mul ha.n hb.n) (by decide)
   have e1:=d4 (f:=f1) ha.ok
   have e2:=d4 (f:=f2) hb.ok
   have hn1:(Go.Abs.flip f1 a).n=a.n:=nN
   have hn2:(Go.Abs.flip f2 b).n=b.n:=nN
   obtain ⟨v,g1,g2,g3,g4⟩:=FM (step:=cf (Go.Abs.flip f1 a) (Go.Abs.flip f2 b)) (D:=fun q=>q.1 < (Go.Abs.flip f1 a).n∧q.2 < (Go.Abs.flip f2 b).n) (fun q c hq hc=>⟨e1.lt hq.1 hc,e2.lt hq.2 hc⟩) (N:=(Go.Abs.flip f1 a).n * (Go.Abs.flip f2 b).n) (fun l k1 k2=>gb k2 k1) (p:=(0,0)) ⟨e1.pos,e2.pos⟩ w.length w (Nat.le_refl _) hI.1
   have h5:=hI.2.2 v g3 (by rw [g4]; exact hI.2.1)
   have h6:¬v.length < w.length:=fun h=>h5 (.inl h)
   rw [hn1,hn2] at g1
   omega
theorem My:Aut.c lz=ox [List.replicate 95 0] [false]:=by rw [Aut.c_eq]; simp [lz]
theorem H4 {o:Option Constraint} (h:∀ c,o=some c→∃ x,GoodC c x) {f:Str→Bool} (hf:∀ s,f s=(o.map fun c=>allows12 c s).getD false):
 ∃ a,AccF f a∧(∀ c,o=some c→Fn Tryz.prog uE [c.v] (.strct (Aut.c a)))∧(o=none→a=lz):=by
 cases o with
 | none=>
   have:f=fun _=>false:=funext fun s=>by rw [hf]; rfl
   exact ⟨lz,by rw [this]; exact Hq,(fun c h=>by cases h),fun _=>rfl⟩
 | some c=>
   obtain ⟨x,hx⟩:=h c rfl
   obtain ⟨a,ha⟩:=hx.aut
   have:f=allows12 c:=funext fun s=>by rw [hf]; rfl
   exact ⟨a,by rw [this]; exact Pm hx ha,(fun d h=>by cases h; exact nS hx ha),fun h=>by cases h⟩
theorem xR (p q:Policy) (el nm:Str) (hp:∀ c,dJ p el nm=some c→∃ x,GoodC c x) (hq:∀ c,dJ q el nm=some c→∃ x,GoodC c x):
 ∃ r0 r1 r2 r3,jS (cD p el nm) (cD q el nm) true true r0∧jS (cD p el nm) (cD q el nm) true false r1∧jS (cD p el nm) (cD q el nm) false true r2∧jS (cD p el nm) (cD q el nm) false false r3∧(∀ r∈[r0,r1,r2,r3],∀ w,r=some w→w.length < 250001)∧
   Fn Tryz.prog nj [p.v,q.v,.str el,.str nm] (.strct [.str (ba r0),.str (ba r1),.str (ba r2),.str (ba r3)]):=by
 have eP:∀ c,dJ p el nm=some c→cD p el nm=allows12 c:=fun c h=>funext fun s=>by simp [cD,h]
 have eQ:∀ c,dJ q el nm=some c→cD q el nm=allows12 c:=fun c h=>funext fun s=>by simp [cD,h]
 by_cases hb:(∃ c,dJ p el nm=some c)∧(∃ d,dJ q el nm=some d)
 · obtain ⟨⟨c,hc⟩,d,hd⟩:=hb
   obtain ⟨x,hx⟩:=hp c hc
   obtain ⟨y,hy⟩:=hq d hd
   obtain ⟨r0,r1,r2,r3,c0,c1,c2,c3,hl,hF⟩:=Di hx hy
   rw [eP c hc,eQ d hd]
   have conv:∀ f1 f2 r,ug c d f1 f2 r→jS (allows12 c) (allows12 d) f1 f2 r:=fun f1 f2 r h=>by cases r<;>exact h
   refine ⟨r0,r1,r2,r3,conv _ _ _ c0,conv _ _ _ c1,conv _ _ _ c2,conv _ _ _ c3,hl,?_⟩
   have f1:=iy p el nm
   have f2:=iy q el nm
   rw [hc] at f1
   rw [hd] at f2
   simp only [Option.getD_some,Option.isSome_some] at f1 f2
   clear eP eQ hp hq hx hy c0 c1 c2 c3 hl conv hc hd
   generalize ba r0=s0 at *
   generalize ba r1=s1 at *
   generalize ba r2=s2 at *
   generalize ba r3=s3 at *
   refine Fn.of_image mixed nI nA rfl fun ho=>?_
   unfold jx
   simp only [oks,ok,and_true] at ho
   clear ho
   simp (disch:=omega) [-List.reduceReplicate]
   refine aj f1 (by simp) fun _=>?_
   simp (disch:=omega) [-List.reduceReplicate]
   refine aj f2 (by simp) fun _=>?_
   simp (disch:=omega) [-List.reduceReplicate]
   refine ae hF rfl fun _=>?_
   simp (disch:=omega) [-List.reduceReplicate]
 · obtain ⟨a,ha,h1,z1⟩:=H4 hp (f:=cD p el nm) fun s=>by unfold cD; cases dJ p el nm<;>rfl
   obtain ⟨b,hb',h2,z2⟩:=H4 hq (f:=cD q el nm) fun s=>by unfold cD; cases dJ q el nm<;>rfl
   obtain ⟨r0,k0,c0,l0⟩:=sL ha hb' true true
   obtain ⟨r1,k1,c1,l1⟩:=sL ha hb' true false
   obtain ⟨r2,k2,c2,l2⟩:=sL ha hb' false true
   obtain ⟨r3,k3,c3,l3⟩:=sL ha hb' false false
   refine ⟨r0,r1,r2,r3,c0,c1,c2,c3,fun r hr=>?_,?_⟩
   · simp only [List.mem_cons,List.not_mem_nil,or_false] at hr
     rcases hr with rfl | rfl | rfl | rfl
     · exact l0
     · exact l1
     · exact l2
     · exact l3
   have n1:=oT ha.ok ha.n
   have n2:=oT hb'.ok hb'.n
   have hE:=EX
   rw [←My] at hE
   have y1:dJ p el nm=none→Aut.c a=Aut.c lz:=fun h=>by rw [z1 h]
   have y2:dJ q el nm=none→Aut.c b=Aut.c lz:=fun h=>by rw [z2 h]
   have f1:=iy p el nm
   have f2:=iy q el nm
   simp only [Go.Abs.flip,if_true,Bool.false_eq_true,if_false] at k0 k1 k2 k3
   clear c0 c1 c2 c3 ha hb' hp hq eP eQ z1 z2
   have e1:(na a).next=a.next:=rfl
   have e2:(na b).next=b.next:=rfl
   simp only [Aut.c,dh,C6,e1,e2] at h1 h2 n1 n2 k0 k1 k2 k3 y1 y2 hE
   obtain ⟨A,hA⟩:∃ A,A=a.next.map bL:=⟨_,rfl⟩
   obtain ⟨A',hA'⟩:∃ A,A=a.final.map V.bool:=⟨_,rfl⟩
   obtain ⟨A2,hA2⟩:∃ A,A=(na a).final.map V.bool:=⟨_,rfl⟩
   obtain ⟨B,hB⟩:∃ A,A=b.next.map bL:=⟨_,rfl⟩
   obtain ⟨B',hB'⟩:∃ A,A=b.final.map V.bool:=⟨_,rfl⟩
   obtain ⟨B2,hB2⟩:∃ A,A=(na b).final.map V.bool:=⟨_,rfl⟩
   obtain ⟨E,hE1⟩:∃ A,A=lz.next.map bL:=⟨_,rfl⟩
   obtain ⟨E',hE2⟩:∃ A,A=lz.final.map V.bool:=⟨_,rfl⟩
   rw [←hA,←hA'] at h1 n1 y1
   rw [←hB,←hB'] at h2 n2 y2
   rw [←hA2] at n1
   rw [←hB2] at n2
   rw [←hA,←hA',←hB,←hB'] at k0
   rw [←hA,←hA',←hB,←hB2] at k1
   rw [←hA,←hA2,←hB,←hB'] at k2
   rw [←hA,←hA2,←hB,←hB2] at k3
   rw [←hE1,←hE2] at hE y1 y2
   clear e1 e2 hA hA' hA2 hB hB' hB2 hE1 hE2
   obtain ⟨w0,o0,p0,q0,m0⟩:=f5 r0 l0
   obtain ⟨w1,o1,p1,q1,m1⟩:=f5 r1 l1
   obtain ⟨w2,o2,p2,q2,m2⟩:=f5 r2 l2
   obtain ⟨w3,o3,p3,q3,m3⟩:=f5 r3 l3
   rw [p0] at k0
   rw [p1] at k1
   rw [p2] at k2
   rw [p3] at k3
   obtain ⟨s0,hs0⟩:∃ s,s=ba r0:=⟨_,rfl⟩
   obtain ⟨s1,hs1⟩:∃ s,s=ba r1:=⟨_,rfl⟩
   obtain ⟨s2,hs2⟩:∃ s,s=ba r2:=⟨_,rfl⟩
   obtain ⟨s3,hs3⟩:∃ s,s=ba r3:=⟨_,rfl⟩
   rw [←hs0,←hs1,←hs2,←hs3]
   rw [q0] at hs0
   rw [q1] at hs1
   rw [q2] at hs2
   rw [q3] at hs3
   clear p0 p1 p2 p3 q0 q1 q2 q3 l0 l1 l2 l3
   refine Fn.of_image mixed nI nA rfl fun ho=>?_
   unfold jx
   simp only [oks,ok,and_true] at ho
   clear ho
   simp (disch:=omega) [-List.reduceReplicate]
   refine aj f1 (by simp) fun _=>?_
   simp (disch:=omega) [-List.reduceReplicate]
   refine aj f2 (by simp) fun _=>?_
   clear f1 f2
   generalize dJ p el nm=o at *
   generalize dJ q el nm=o' at *
   rcases o with _ | c<;>rcases o' with _ | d
   rotate_left 3
   · exact absurd ⟨⟨c,rfl⟩,d,rfl⟩ hb
   all_goals
    simp (disch:=omega) [-List.reduceReplicate]
    refine aj hE (by simp) fun _=>?_
    simp (disch:=omega) [-List.reduceReplicate]
    refine aj hE (by simp) fun _=>?_
    simp (disch:=omega) [-List.reduceReplicate]
    first | refine aj (h1 _ rfl) (by simp) fun _=>?_ | refine aj (h2 _ rfl) (by simp) fun _=>?_ | skip
    try simp (disch:=omega) [-List.reduceReplicate]
    refine ak (fun k:Nat=>⟨[(8,.ptr 0 0),(13,.ptr 1 0),(14,.ptr 2 0),(15,.ptr 3 0),(50,nV k)],
     [some (.box [.str [],.str [],.str [],.str []]),some (.box [.seq 1 A,.seq 1 A']),some (.box [.seq 1 B,.seq 1 B']),some (.box [upS k 0 s0,upS k 1 s1,upS k 2 s2,upS k 3 s3])]⟩) (fun k=>k≤4) (fun k=>4 - k) [] _ 0 rfl
     (by first | (simp at y1 y2; simp [upS,y1,y2]; done) | (simp at y1; simp [upS,y1]; done) | (simp at y2; simp [upS,y2]; done)) (by simp) ?_
    clear y1 y2 h1 h2 hE
    intro k hk N hN
    have hkk:k=0∨k=1∨k=2∨k=3∨k=4:=by omega
    rcases hkk with rfl | rfl | rfl | rfl | rfl
    · simp (disch:=omega) [-List.reduceReplicate,upS]
      refine ct ⟨[(8,.ptr 0 0),(13,.ptr 1 0),(14,.ptr 2 0),(15,.ptr 3 0),(16,.int .i64 0),(17,.ptr 4 0),(18,.ptr 5 0),(50,.int .i64 0)],[some (.box [.str [],.str [],.str [],.str []]),some (.box [.seq 1 A,.seq 1 A']),some (.box [.seq 1 B,.seq 1 B']),some (.box [.str [],.str [],.str [],.str []]),some (.box [.seq 1 A,.seq 1 A']),some (.box [.seq 1 B,.seq 1 B'])]⟩ (fun F hF=>?_) ?_
      · try simp at hF
        repeat' (first
         | with_reducible exact hF
         | refine BC.mk ?_ ?_
         | (simp (disch:=omega) [-List.reduceReplicate]))
      simp (disch:=omega) [-List.reduceReplicate]
      refine ae k0 rfl fun _=>?_
      cases o0 with
      | true=>
        simp (disch:=omega) [-List.reduceReplicate]
        exact hN.out _<|Nx.mk 1 (by simp [upS,hs0]) (by simp) (by simp)
      | false=>
        simp (disch:=omega) [-List.reduceReplicate]
        exact hN.out _<|Nx.mk 1 (by simp [upS,hs0]) (by simp) (by simp)
    · simp (disch:=omega) [-List.reduceReplicate,upS]
      refine ct ⟨[(8,.ptr 0 0),(13,.ptr 1 0),(14,.ptr 2 0),(15,.ptr 3 0),(16,.int .i64 1),(17,.ptr 4 0),(18,.ptr 5 0),(50,.int .i64 1)],[some (.box [.str [],.str [],.str [],.str []]),some (.box [.seq 1 A,.seq 1 A']),some (.box [.seq 1 B,.seq 1 B']),some (.box [.str s0,.str [],.str [],.str []]),some (.box [.seq 1 A,.seq 1 A']),some (.box [.seq 1 B,.seq 1 B'])]⟩ (fun F hF=>?_) ?_
      · try simp at hF
        repeat' (first
         | with_reducible exact hF
         | refine BC.mk ?_ ?_
         | (simp (disch:=omega) [-List.reduceReplicate]))
      simp (disch:=omega) [-List.reduceReplicate]
      refine aj n2 (by simp) fun _=>?_
      simp (disch:=omega) [-List.reduceReplicate]
      refine ae k1 rfl fun _=>?_
      cases o1 with
      | true=>
        simp (disch:=omega) [-List.reduceReplicate]
        exact hN.out _<|Nx.mk 2 (by simp [upS,hs1]) (by simp) (by simp)
      | false=>
        simp (disch:=omega) [-List.reduceReplicate]
        exact hN.out _<|Nx.mk 2 (by simp [upS,hs1]) (by simp) (by simp)
    · simp (disch:=omega) [-List.reduceReplicate,upS]
      refine ct ⟨[(8,.ptr 0 0),(13,.ptr 1 0),(14,.ptr 2 0),(15,.ptr 3 0),(16,.int .i64 2),(17,.ptr 4 0),(18,.ptr 5 0),(50,.int .i64 2)],[some (.box [.str [],.str [],.str [],.str []]),some (.box [.seq 1 A,.seq 1 A']),some (.box [.seq 1 B,.seq 1 B']),some (.box [.str s0,.str s1,.str [],.str []]),some (.box [.seq 1 A,.seq 1 A']),some (.box [.seq 1 B,.seq 1 B'])]⟩ (fun F hF=>?_) ?_
      · try simp at hF
        repeat' (first
         | with_reducible exact hF
         | refine BC.mk ?_ ?_
         | (simp (disch:=omega) [-List.reduceReplicate]))
      simp (disch:=omega) [-List.reduceReplicate]
      refine aj n1 (by simp) fun _=>?_
      simp (disch:=omega) [-List.reduceReplicate]
      refine ae k2 rfl fun _=>?_
      cases o2 with
      | true=>
        simp (disch:=omega) [-List.reduceReplicate]
        exact hN.out _<|Nx.mk 3 (by simp [upS,hs2]) (by simp) (by simp)
      | false=>
        simp (disch:=omega) [-List.reduceReplicate]
        exact hN.out _<|Nx.mk 3 (by simp [upS,hs2]) (by simp) (by simp)
    · simp (disch:=omega) [-List.reduceReplicate,upS]
      refine ct ⟨[(8,.ptr 0 0),(13,.ptr 1 0),(14,.ptr 2 0),(15,.ptr 3 0),(16,.int .i64 3),(17,.ptr 4 0),(18,.ptr 5 0),(50,.int .i64 3)],[some (.box [.str [],.str [],.str [],.str []]),some (.box [.seq 1 A,.seq 1 A']),some (.box [.seq 1 B,.seq 1 B']),some (.box [.str s0,.str s1,.str s2,.str []]),some (.box [.seq 1 A,.seq 1 A']),some (.box [.seq 1 B,.seq 1 B'])]⟩ (fun F hF=>?_) ?_
      · try simp at hF
        repeat' (first
         | with_reducible exact hF
         | refine BC.mk ?_ ?_
         | (simp (disch:=omega) [-List.reduceReplicate]))
      simp (disch:=omega) [-List.reduceReplicate]
      refine aj n1 (by simp) fun _=>?_
      simp (disch:=omega) [-List.reduceReplicate]
      refine aj n2 (by simp) fun _=>?_
      simp (disch:=omega) [-List.reduceReplicate]
      refine ae k3 rfl fun _=>?_
      cases o3 with
      | true=>
        simp (disch:=omega) [-List.reduceReplicate]
        exact hN.out _<|Nx.mk 4 (by simp [upS,hs3]) (by simp) (by simp)
      | false=>
        simp (disch:=omega) [-List.reduceReplicate]
        exact hN.out _<|Nx.mk 4 (by simp [upS,hs3]) (by simp) (by simp)
    · simp (disch:=omega) [-List.reduceReplicate,upS]
def lab (el ex:Str) (mn one two:Bool) (r:Option (List Nat)):List Label:=match r with
 | none=>[]
 | some w=>[⟨4,el,ex,mn,aT w,one,two⟩]
def dZ (el ex:Str) (mn:Bool) (r0 r1 r2 r3:Option (List Nat)):Nat→List Label
 | 0=>[]
 | 1=>lab el ex mn true true r0
 | 2=>lab el ex mn true true r0++lab el ex mn true false r1
 | 3=>lab el ex mn true true r0++lab el ex mn true false r1++lab el ex mn false true r2
 | _=>lab el ex mn true true r0++lab el ex mn true false r1++lab el ex mn false true r2++lab el ex mn false false r3
theorem co {el ex:Str} {mn one two:Bool} {r:Option (List Nat)}:(lab el ex mn one two r).length≤1:=by cases r<;>simp [lab]
theorem rh (p q:Policy) (el name ex:Str) {r0 r1 r2 r3:Option (List Nat)} (hl:∀ r∈[r0,r1,r2,r3],∀ w,r=some w→w.length < 250001)
 (hV:Fn Tryz.prog nj [p.v,q.v,.str el,.str ex] (.strct [.str (ba r0),.str (ba r1),.str (ba r2),.str (ba r3)])):
 Fn Tryz.prog d9 [p.v,q.v,.str el,.str name,.str ex] (.seq 7 ((dZ el ex (c5 name) r0 r1 r2 r3 4).map Label.v)):=by
 have l0:=hl r0 (by simp)
 have l1:=hl r1 (by simp)
 have l2:=hl r2 (by simp)
 have l3:=hl r3 (by simp)
 clear hl
 refine Fn.of_image mixed qZ qT rfl fun ho=>?_
 unfold jw
 simp only [oks,ok,and_true] at ho
 clear ho
 simp (disch:=omega) [-List.reduceReplicate]
 refine ae hV rfl fun _=>?_
 simp (disch:=omega) [-List.reduceReplicate]
 have hm:=fj name
 generalize c5 name=mn at *
 refine ak (fun k:Nat=>⟨[(2,.str el),(3,.str name),(4,.str ex),(11,.ref 0 (dZ el ex mn r0 r1 r2 r3 k).length),(18,.strct [.str (ba r0),.str (ba r1),.str (ba r2),.str (ba r3)]),(19,nV k)],
  [some (.arr ez 7 ((dZ el ex mn r0 r1 r2 r3 k).map Label.v))]⟩) (fun k=>k≤4) (fun k=>4 - k) [.r 11 ez 7] _ 0 rfl (by simp [dZ]) (by simp) ?_
 clear hV
 intro k hk N hN
 have hkk:k=0∨k=1∨k=2∨k=3∨k=4:=by omega
 rcases hkk with rfl | rfl | rfl | rfl | rfl
 · have b0:=@co el ex mn true true r0
   have b1:=@co el ex mn true false r1
   have b2:=@co el ex mn false true r2
   have hA:(dZ el ex mn r0 r1 r2 r3 0).length≤4:=by simp [dZ]; try omega
   have hB:dZ el ex mn r0 r1 r2 r3 1=dZ el ex mn r0 r1 r2 r3 0++lab el ex mn true true r0:=by simp [dZ]
   generalize dZ el ex mn r0 r1 r2 r3 0=L at *
   cases r0 with
   | none=>
     simp (disch:=omega) [-List.reduceReplicate,ba]
     exact hN.out _<|Nx.mk 1 (by simp [hB,lab,ba]) (by simp) (by simp)
   | some w=>
     have hw:(aT w).length < 250001:=by rw [fA]; exact l0 w rfl
     simp only [ba,lab] at *
     generalize aT w=t at *
     simp (disch:=omega) [-List.reduceReplicate]
     refine aN hm rfl ?_
     simp (disch:=omega) [-List.reduceReplicate]
     exact hN.out _<|Nx.mk 1 (by simp [hB,Label.v]) (by simp) (by simp)
 · have b0:=@co el ex mn true true r0
   have b1:=@co el ex mn true false r1
   have b2:=@co el ex mn false true r2
   have hA:(dZ el ex mn r0 r1 r2 r3 1).length≤4:=by simp [dZ]; try omega
   have hB:dZ el ex mn r0 r1 r2 r3 2=dZ el ex mn r0 r1 r2 r3 1++lab el ex mn true false r1:=by simp [dZ]
   generalize dZ el ex mn r0 r1 r2 r3 1=L at *
   cases r1 with
   | none=>
     simp (disch:=omega) [-List.reduceReplicate,ba]
     exact hN.out _<|Nx.mk 2 (by simp [hB,lab,ba]) (by simp) (by simp)
   | some w=>
     have hw:(aT w).length < 250001:=by rw [fA]; exact l1 w rfl
     simp only [ba,lab] at *
     generalize aT w=t at *
     simp (disch:=omega) [-List.reduceReplicate]
     refine aN hm rfl ?_
     simp (disch:=omega) [-List.reduceReplicate]
     exact hN.out _<|Nx.mk 2 (by simp [hB,Label.v]) (by simp) (by simp)
 · have b0:=@co el ex mn true true r0
   have b1:=@co el ex mn true false r1
   have b2:=@co el ex mn false true r2
   have hA:(dZ el ex mn r0 r1 r2 r3 2).length≤4:=by simp [dZ]; try omega
   have hB:dZ el ex mn r0 r1 r2 r3 3=dZ el ex mn r0 r1 r2 r3 2++lab el ex mn false true r2:=by simp [dZ]
   generalize dZ el ex mn r0 r1 r2 r3 2=L at *
   cases r2 with
   | none=>
     simp (disch:=omega) [-List.reduceReplicate,ba]
     exact hN.out _<|Nx.mk 3 (by simp [hB,lab,ba]) (by simp) (by simp)
   | some w=>
     have hw:(aT w).length < 250001:=by rw [fA]; exact l2 w rfl
     simp only [ba,lab] at *
     generalize aT w=t at *
     simp (disch:=omega) [-List.reduceReplicate]
     refine aN hm rfl ?_
     simp (disch:=omega) [-List.reduceReplicate]
     exact hN.out _<|Nx.mk 3 (by simp [hB,Label.v]) (by simp) (by simp)
 · have b0:=@co el ex mn true true r0
   have b1:=@co el ex mn true false r1
   have b2:=@co el ex mn false true r2
   have hA:(dZ el ex mn r0 r1 r2 r3 3).length≤4:=by simp [dZ]; try omega
   have hB:dZ el ex mn r0 r1 r2 r3 4=dZ el ex mn r0 r1 r2 r3 3++lab el ex mn false false r3:=by simp [dZ]
   generalize dZ el ex mn r0 r1 r2 r3 3=L at *
   cases r3 with
   | none=>
     simp (disch:=omega) [-List.reduceReplicate,ba]
     exact hN.out _<|Nx.mk 4 (by simp [hB,lab,ba]) (by simp) (by simp)
   | some w=>
     have hw:(aT w).length < 250001:=by rw [fA]; exact l3 w rfl
     simp only [ba,lab] at *
     generalize aT w=t at *
     simp (disch:=omega) [-List.reduceReplicate]
     refine aN hm rfl ?_
     simp (disch:=omega) [-List.reduceReplicate]
     exact hN.out _<|Nx.mk 4 (by simp [hB,Label.v]) (by simp) (by simp)
 · simp (disch:=omega) [-List.reduceReplicate]
end Go.Abs.F
end
