/-
  Plain: a kind's least value is one alone; turned round; of the same policy twice there is none that one alone allows. No condition.
  What cells.Labels answers: the labels of two policies. No condition.
  What law 17's example answers. No condition.
  Of a policy and itself no label tells that one of both alone allows. No condition.
  CellsSelf: of a policy and itself no label tells that one of both alone allows. No condition.
  Plain: what 'Good' makes of a policy has good constraints and few rules. No condition.
  Plain: the names of the elements that 'Good' leaves are all different; so there is a label for each. No condition.
  Plain: there is a label for each element that 'Good' leaves. No condition.
  CellsSelf: joined. No condition.
-/
import Derived.Test.YtloaikaippankaaGreatDoorKP1
import Derived.Test.YtloaikaippankaaGreatDoorKF17
set_option linter.unusedVariables false
set_option linter.unusedSimpArgs false
set_option linter.unusedSectionVars false
section
set_option maxHeartbeats 4000000
set_option maxRecDepth 100000
namespace Go.Abs.F
open Go.Proofs
attribute [-simp] getElem?_pos Option.not_isSome List.map_map
theorem wV:∀ s t:Str,s.length=t.length→Op.bytesLess s t=true∨s=t∨Op.bytesLess t s=true
 | [],[],_=>.inr (.inl rfl)
 | [],y::t,h=>by simp at h
 | x::s,[],h=>by simp at h
 | x::s,y::t,h=>by
   simp only [Op.bytesLess,Bool.or_eq_true,Bool.and_eq_true,decide_eq_true_eq,beq_iff_eq,UInt8.lt_iff_toNat_lt]
   rcases Nat.lt_trichotomy x.toNat y.toNat with h1 | h1 | h1
   · exact .inl (.inl h1)
   · have e:x=y:=UInt8.toNat_inj.1 h1
     subst e
     rcases wV s t (by simpa using h) with h2 | h2 | h2
     · exact .inl (.inr ⟨rfl,h2⟩)
     · exact .inr (.inl (by rw [h2]))
     · exact .inr (.inr (.inr ⟨rfl,h2⟩))
   · exact .inr (.inr (.inl h1))
theorem Fe (s t:Str):tX s t∨s=t∨tX t s:=by
 unfold tX
 rcases Nat.lt_trichotomy s.length t.length with h | h | h
 · exact .inl (.inl h)
 · rcases wV s t h with h1 | h1 | h1
   · exact .inl (.inr ⟨h,h1⟩)
   · exact .inr (.inl h1)
   · exact .inr (.inr (.inr ⟨h.symm,h1⟩))
 · exact .inr (.inr (.inl h))
theorem G3 {f g:Str→Bool} {f1 f2:Bool}:∀ {r r':Option (List Nat)},mg f g f1 f2 r→mg f g f1 f2 r'→r=r'
 | none,none,_,_=>rfl
 | none,some w,h,h'=>absurd h'.2.2.1 fun e=>h _ (iT h'.1) h'.2.1 e
 | some w,none,h,h'=>absurd h.2.2.1 fun e=>h' _ (iT h.1) h.2.1 e
 | some w,some w',h,h'=>by
   have k1:=h.2.2.2 _ (iT h'.1) h'.2.1 h'.2.2.1
   have k2:=h'.2.2.2 _ (iT h.1) h.2.1 h.2.2.1
   rcases Fe (aT w) (aT w') with h1 | h1 | h1
   · exact absurd h1 k2
   · have:=congrArg sw h1
     rw [rp h.1,rp h'.1] at this
     rw [this]
   · exact absurd h1 k1
theorem xZ {f:Str→Bool} {f1 f2:Bool} (hn:f1≠f2):∀ {r:Option (List Nat)},mg f f f1 f2 r→r=none
 | none,_=>rfl
 | some w,h=>absurd (h.2.1.symm.trans h.2.2.1) hn
theorem gw {f g:Str→Bool} {f1 f2:Bool} {r:Option (List Nat)} (h:mg f g f1 f2 r):Bd f g f1 f2=r:=by
 have hex:∃ r,mg f g f1 f2 r:=⟨r,h⟩
 unfold Bd
 rw [dif_pos hex]
 exact G3 (Classical.choose_spec hex) h
end Go.Abs.F
end
section
set_option maxHeartbeats 4000000
set_option maxRecDepth 100000
namespace Go.Abs.F
open Go.Proofs Go.Aut
attribute [-simp] getElem?_pos Option.not_isSome List.map_map
theorem d1 {Φ:Ctr} {d:Option Nat} {K:St→Prop} {σ:St} (ps:List Nat) (q:Nat) (m:List Nat) {f:FuncId} {vs us:List V} {H H':List (Option Ob)} {r:V} (hc:σ.curs (bH vs ps)=true) (hl:dV σ.h (bH vs ps) vs=(q,m)) (hu:cU m vs=us) (hH:fA σ.h m m=H)
 (h:Φ.e f ps us H r H') (hk:kin q H H'=true) (k:K (St.put ⟨σ.r,σ.back q m H'⟩ d (bck (tQ q m σ.h.length H'.length) r))):ow Φ d f vs K σ:=by
 refine ⟨ps,hc,r,H',?_,?_,?_⟩
 · rw [hl,hH]; exact hk
 · rw [hl,hu,hH]; exact h
 · rw [hl]; exact k
def ip (k:Int) (el:Str):Label:=⟨k,el,[],false,[],false,false⟩
def bw (p q:Policy) (at':Str→Str→List Label) (el:Str):List Label:=ip 3 el::(bE p q el).flatMap (at' el)
def gI (p q:Policy):List Str:=dd (srt (srt (p.elements.map Allowed.name)++srt (q.elements.map Allowed.name)))
def dY (p q:Policy) (at':Str→Str→List Label):List Label:=[ip 1 [],ip 2 []]++(gI p q).flatMap (bw p q at')
theorem ky {α β:Type} (f:α→List β) (n:Nat):∀ (l:List α),(∀ x∈l,(f x).length≤n)→(l.flatMap f).length≤n * l.length
 | [],_=>by simp
 | x::l,h=>by
   have h1:=h x (by simp)
   have h2:=ky f n l fun y hy=>h y (by simp [hy])
   simp only [List.flatMap_cons,List.length_append,List.length_cons,Nat.mul_add]
   omega
theorem q8 (p q:Policy) (el:Str):(bE p q el).length≤2 * ((aE p el).length + (aE q el).length):=by
 have hc:bE p q el=dd (srt (cw (aE p el++aE q el)))++dd (srt (eb (aE p el++aE q el))):=rfl
 rw [hc,List.length_append]
 have h1:=tR (srt (cw (aE p el++aE q el)))
 have h2:=tR (srt (eb (aE p el++aE q el)))
 have h3:=qt (aE p el++aE q el)
 have h4:=tf (aE p el++aE q el)
 rw [db] at h1 h2
 simp only [List.length_append] at h3 h4
 omega
theorem wD (p q:Policy):(gI p q).length≤p.elements.length + q.elements.length:=by
 unfold gI
 have:=tR (srt (srt (p.elements.map Allowed.name)++srt (q.elements.map Allowed.name)))
 simp only [db,List.length_append,List.length_map] at this
 exact this
theorem nN (p q:Policy) (hp:p.elements.length≤1000) (hq:q.elements.length≤1000) (hpr:∀ el,(aE p el).length≤1000) (hqr:∀ el,(aE q el).length≤1000)
 (at':Str→Str→List Label) (hat:∀ el nm,(at' el nm).length≤4)
 (hA:∀ el nm,Fn Tryz.prog d5 [p.v,q.v,.str el,.str nm,.str (a7 (bE p q el) nm)] (.seq 7 ((at' el nm).map Label.v))):
 Fn Tryz.prog nb [p.v,q.v] (.seq 7 ((dY p q at').map Label.v)):=by
 refine Fn.of_imageE mixed xo xb rfl fun ho=>?_
 unfold oe
 simp only [oks,ok,and_true] at ho
 clear ho
 simp (disch:=omega) [-List.reduceReplicate]
 refine aF (nJ p hp) (by simp) ?_
 simp (disch:=omega) [-List.reduceReplicate]
 refine aF (nJ q hq) (by simp) ?_
 simp (disch:=omega) [-List.reduceReplicate]
 have hcc:=vm (srt (p.elements.map Allowed.name)) (srt (q.elements.map Allowed.name)) (by simp only [db,List.length_map]; omega)
 have hnl:=wD p q
 obtain ⟨A,hAe⟩:∃ A,A=srt (p.elements.map Allowed.name)++srt (q.elements.map Allowed.name):=⟨_,rfl⟩
 have hAl:A.length≤2000:=by rw [hAe]; simp only [List.length_append,db,List.length_map]; omega
 have hNe:gI p q=dd (srt A):=by rw [hAe]; rfl
 rw [←hAe] at hcc
 have s1:=fU A (by omega)
 have c1:=fI (srt A) (by rw [db]; omega)
 rw [db] at c1
 have l1:=db A
 refine d1 [] 0 [] (by simp) (by simp) (by simp) (by simp) hcc (by simp) ?_
 clear hcc hAe
 simp (disch:=omega) [-List.reduceReplicate]
 refine ah [0] 1 [3] (by simp) (by simp) (by simp) (by simp) s1 (by simp) fun _ _=>?_
 simp (disch:=omega) [-List.reduceReplicate,l1]
 refine ah [] 0 [3] (by simp) (by simp) (by simp) (by simp) c1 (by simp) fun _ _=>?_
 simp (disch:=omega) [-List.reduceReplicate,l1]
 simp only [dY,hNe]
 have hDl:(dd (srt A)).length≤2000:=by have:=tR (srt A); omega
 generalize dd (srt A)=D at *
 clear hNe hnl c1 s1 l1
 have hEl:∀ el,(bw p q at' el).length≤20000:=fun el=>by
  have h1:=ky (at' el) 4 (bE p q el) fun x _=>hat el x
  have h2:=q8 p q el
  have h3:=hpr el
  have h4:=hqr el
  simp only [bw,List.length_cons]
  omega
 refine ak (fun k:Nat=>⟨[(2,.ptr 0 0),(3,.ptr 1 0),(5,.ref 2 ([ip 1 [],ip 2 []]++(D.take k).flatMap (bw p q at')).length),(24,.ref 3 D.length),(25,.int .i64 D.length),(26,.int .i64 k)],
  [some (.box [.seq 1 (p.top.map .str),.seq 3 (p.elements.map Allowed.v),.seq 1 (p.unwrap.map .str)]),some (.box [.seq 1 (q.top.map .str),.seq 3 (q.elements.map Allowed.v),.seq 1 (q.unwrap.map .str)]),some (.arr et 7 (([ip 1 [],ip 2 []]++(D.take k).flatMap (bw p q at')).map Label.v)),some (.arr au 1 (D.map .str))]⟩)
  (fun k=>k≤D.length) (fun k=>D.length - k) [] _ 0 rfl (by simp [ip,Label.v]) (by simp) ?_
 rintro k hk N hN
 have hPl:([ip 1 [],ip 2 []]++(D.take k).flatMap (bw p q at')).length≤50000000:=by
  have:=ky (bw p q at') 20000 (D.take k) fun x _=>hEl x
  simp only [List.length_append,List.length_cons,List.length_nil,List.length_take] at this ⊢
  omega
 rcases Nat.lt_or_ge k D.length with hlt | hge
 · obtain ⟨x,hx⟩:=ap hlt
   have hstep:[ip 1 [],ip 2 []]++(D.take (k + 1)).flatMap (bw p q at')=([ip 1 [],ip 2 []]++(D.take k).flatMap (bw p q at'))++(ip 3 x::(bE p q x).flatMap (at' x)):=by simp [List.take_add_one,hx,bw]
   have hC:=xI p q x (hpr x) (hqr x)
   have hAx:=hA x
   have hatx:=hat x
   have hcl:(bE p q x).length≤4000:=by have:=q8 p q x; have:=hpr x; have:=hqr x; omega
   generalize [ip 1 [],ip 2 []]++(D.take k).flatMap (bw p q at')=P at *
   generalize bE p q x=C at *
   simp (disch:=omega) [-List.reduceReplicate,hx]
   refine aj hC (by simp) fun _=>?_
   simp (disch:=omega) [-List.reduceReplicate]
   refine ak (fun j:Nat=>⟨[(2,.ptr 0 0),(3,.ptr 1 0),(5,.ref 2 (P++(ip 3 x::(C.take j).flatMap (at' x))).length),(8,.str x),(9,.seq 1 (C.map .str)),(24,.ref 3 D.length),(25,.int .i64 D.length),(26,.int .i64 k),(39,.seq 1 (C.map .str)),(40,.int .i64 C.length),(41,.int .i64 j)],
    [some (.box [.seq 1 (p.top.map .str),.seq 3 (p.elements.map Allowed.v),.seq 1 (p.unwrap.map .str)]),some (.box [.seq 1 (q.top.map .str),.seq 3 (q.elements.map Allowed.v),.seq 1 (q.unwrap.map .str)]),some (.arr et 7 ((P++(ip 3 x::(C.take j).flatMap (at' x))).map Label.v)),some (.arr au 1 (D.map .str))]⟩)
    (fun j=>j≤C.length) (fun j=>C.length - j) [] _ 0 rfl (by simp [ip,Label.v]) (by simp) ?_
   rintro j hj N' hN'
   have hQl:(P++(ip 3 x::(C.take j).flatMap (at' x))).length≤60000000:=by
    have:=ky (at' x) 4 (C.take j) fun y _=>hatx y
    simp only [List.length_append,List.length_cons,List.length_take] at this ⊢
    omega
   rcases Nat.lt_or_ge j C.length with hlt2 | hge2
   · obtain ⟨y,hy⟩:=ap hlt2
     have hst2:P++(ip 3 x::(C.take (j + 1)).flatMap (at' x))=(P++(ip 3 x::(C.take j).flatMap (at' x)))++at' x y:=by simp [List.take_add_one,hy]
     have h4:=hatx y
     have hAy:=hAx y
     generalize P++(ip 3 x::(C.take j).flatMap (at' x))=R at *
     simp (disch:=omega) [-List.reduceReplicate,hy]
     refine aF (gL C (by omega) y) (by simp) ?_
     simp (disch:=omega) [-List.reduceReplicate]
     refine aF hAy (by simp) ?_
     simp (disch:=omega) [-List.reduceReplicate]
     exact hN'.out _<|Nx.mk (j + 1) (by simp [hst2]) (by omega) (by omega)
   · obtain rfl:j=C.length:=by omega
     simp only [List.take_length] at *
     simp (disch:=omega) [-List.reduceReplicate]
     exact hN.out _<|Nx.mk (k + 1) (by simp [hstep]) (by omega) (by omega)
 · obtain rfl:k=D.length:=by omega
   simp only [List.take_length] at *
   simp (disch:=omega) [-List.reduceReplicate]
end Go.Abs.F
end
section
set_option maxHeartbeats 1000000
set_option maxRecDepth 100000
namespace Go.Abs.F
open Go.Proofs Go.Aut
attribute [-simp] getElem?_pos Option.not_isSome List.map_map
def gH:Policy:=⟨[],[⟨[97],[],[]⟩],[]⟩
theorem QB:sd []=[]:=by simp [sd,srt,dd]
theorem LA:gI gH gH=[[97]]:=by
 have h:=IC (srt (gH.elements.map Allowed.name)++srt (gH.elements.map Allowed.name))
 refine v6 h (by simp) fun s=>?_
 rw [gI,G0,ry,List.mem_append,ry]
 simp [gH]
theorem oD (el:Str):aE gH el=[]:=by
 simp only [aE,gH,bQ]
 split<;>rfl
theorem Mt (el:Str):bE gH gH el=[]:=by simp [bE,oD,QB]
theorem Jh (at':Str→Str→List Label):(dY gH gH at').length=3:=by
 simp [dY,LA,bw,Mt]
noncomputable def atR (p q:Policy) (el nm:Str):List Label:=
 d6 el (a7 (bE p q el) nm) (dU nm) (Bd (iD p el (a7 (bE p q el) nm)) (iD q el (a7 (bE p q el) nm)) true true) (Bd (iD p el (a7 (bE p q el) nm)) (iD q el (a7 (bE p q el) nm)) true false)
  (Bd (iD p el (a7 (bE p q el) nm)) (iD q el (a7 (bE p q el) nm)) false true) (Bd (iD p el (a7 (bE p q el) nm)) (iD q el (a7 (bE p q el) nm)) false false) 4
theorem Dl (p q:Policy) (el nm:Str):(atR p q el nm).length≤4:=by
 simp only [atR,d6,List.length_append]
 refine Nat.le_trans (Nat.add_le_add (Nat.add_le_add (Nat.add_le_add co co) co) co) (by decide)
theorem Mf (p q:Policy) (hp:∀ el nm c,dc p el nm=some c→∃ x,GoodC c x) (hq:∀ el nm c,dc q el nm=some c→∃ x,GoodC c x) (el nm:Str):
 Fn Tryz.prog d5 [p.v,q.v,.str el,.str nm,.str (a7 (bE p q el) nm)] (.seq 7 ((atR p q el nm).map Label.v)):=by
 obtain ⟨r0,r1,r2,r3,c0,c1,c2,c3,hl,hV⟩:=nM p q el (a7 (bE p q el) nm) (hp el _) (hq el _)
 have:=qY p q el nm _ hl hV
 unfold atR
 rw [gw c0,gw c1,gw c2,gw c3]
 exact this
theorem zT:Fn Tryz.prog yF [] (.bool true):=by
 have h1:a7 [[105,100],[100,97,116,97,45,42]] [105,100]=[105,100]:=by decide
 have h2:a7 [[105,100],[100,97,116,97,45,42]] [100,97,116,97,45,42]=[100,97,116,97,45]:=by decide
 have f1:=gL [[105,100],[100,97,116,97,45,42]] (by decide) [105,100]
 have f2:=gL [[105,100],[100,97,116,97,45,42]] (by decide) [100,97,116,97,45,42]
 rw [h1] at f1
 rw [h2] at f2
 have hno:∀ el nm c,dc gH el nm=some c→∃ x,GoodC c x:=fun el nm c h=>by simp [dc,oD,gW] at h
 have f3:=nN gH gH (by decide) (by decide) (fun el=>by rw [oD]; simp) (fun el=>by rw [oD]; simp) (atR gH gH) (Dl gH gH) (Mf gH gH hno hno)
 have h3:=Jh (atR gH gH)
 generalize dY gH gH (atR gH gH)=L at *
 simp [gH] at f1 f2 f3
 clear h1 h2 hno
 refine Fn.of_image mixed zA y9 rfl fun ho=>?_
 unfold p6
 simp only [oks,ok,and_true] at ho
 clear ho
 simp (disch:=omega) [-List.reduceReplicate]
 refine aj f1 (by simp) fun _=>?_
 simp (disch:=omega) [-List.reduceReplicate]
 refine aj f2 (by simp) fun _=>?_
 simp (disch:=omega) [-List.reduceReplicate]
 refine aj f3 (by simp) fun _=>?_
 simp (disch:=omega) [-List.reduceReplicate,h3]
theorem MN (p:Policy) (hp:∀ el nm c,dc p el nm=some c→∃ x,GoodC c x) (el nm:Str):∀ l∈atR p p el nm,l.one=l.two:=by
 obtain ⟨r0,r1,r2,r3,c0,c1,c2,c3,_⟩:=nM p p el (a7 (bE p p el) nm) (hp el _) (hp el _)
 unfold atR
 rw [gw c0,gw c1,gw c2,gw c3,xZ (by decide) c1,xZ (by decide) c2]
 intro l hl
 cases r0<;>cases r3<;>simp [d6,lab] at hl<;>first | (rcases hl with rfl | rfl<;>rfl) | (subst hl; rfl)
theorem B6 (p:Policy) (hp:∀ el nm c,dc p el nm=some c→∃ x,GoodC c x):∀ l∈dY p p (atR p p),l.one=l.two:=by
 intro l hl
 simp only [dY,List.mem_append,List.mem_cons,List.not_mem_nil,or_false,List.mem_flatMap,bw] at hl
 rcases hl with (rfl | rfl) | ⟨el,_,rfl | ⟨nm,_,h⟩⟩
 · rfl
 · rfl
 · rfl
 · exact MN p hp el nm l h
theorem B7 (p q:Policy) (at':Str→Str→List Label):2 + (gI p q).length≤(dY p q at').length:=by
 have:∀ l:List Str,l.length≤(l.flatMap (bw p q at')).length:=fun l=>by
  induction l with
  | nil=>simp
  | cons x l ih=>simp [bw] at ih ⊢; omega
 have:=this (gI p q)
 simp [dY] at this ⊢
 omega
theorem nK (p g:Policy) (hG:Fn Tryz.prog rR [p.v] g.v) (L:List Label) (hL:Fn Tryz.prog nb [g.v,g.v] (.seq 7 (L.map Label.v))) (hs:∀ l∈L,l.one=l.two) (hm:2 + g.elements.length≤L.length) (hb:g.elements.length≤1000) (hLb:L.length≤1000000000):
 FnE Tryz.prog bp [p.v] (.bool true):=by
 refine FnE.of_image mixed eX r7 rfl fun ho=>?_
 unfold jO
 clear ho
 have hl:=zT
 simp (disch:=omega) [-List.reduceReplicate]
 refine aj hG (by simp) fun _=>?_
 simp (disch:=omega) [-List.reduceReplicate]
 refine aj hL (by simp) fun _=>?_
 simp (disch:=omega) [-List.reduceReplicate]
 refine ak (fun k:Nat=>⟨[(3,.ptr 0 0),(4,.seq 7 (L.map Label.v)),(5,.int .i64 k)],[some (.box [.seq 1 (g.top.map .str),.seq 3 (g.elements.map Allowed.v),.seq 1 (g.unwrap.map .str)])]⟩) (fun k=>k≤L.length) (fun k=>L.length - k) [] _ 0 rfl (by simp) (by simp) ?_
 rintro k hk N hN
 rcases Nat.lt_or_ge k L.length with hlt | hge
 · obtain ⟨x,hx⟩:=ap hlt
   have hxe:=hs x (List.mem_of_getElem? hx)
   simp (disch:=omega) [-List.reduceReplicate,hx,Label.v,hxe]
   exact hN.out _<|Nx.mk (k + 1) (by simp) (by omega) (by omega)
 · obtain rfl:k=L.length:=by omega
   simp (disch:=omega) [-List.reduceReplicate]
   have hge2:(2:Int) + g.elements.length≤L.length:=by omega
   simp (disch:=omega) [-List.reduceReplicate,hge2]
   refine ae hl rfl fun _=>?_
   simp (disch:=omega) [-List.reduceReplicate]
theorem kS:∀ (l out:List Rule) (i:Nat),(∀ r∈out,∃ c,r.value=good12 c)→∀ r∈fP i out l,∃ c,r.value=good12 c
 | [],out,i,h=>by simpa [fP] using h
 | x::l,out,i,h=>by
   simp only [fP]
   split
   · exact kS l out _ h
   · refine kS l _ _ fun r hr=>?_
     rcases List.mem_append.1 hr with hr | hr
     · exact h r hr
     · simp at hr; subst hr
       unfold gp
       split<;>exact ⟨_,rfl⟩
theorem nE (p:Policy) (el:Str):aE (bq p) el=[]∨∃ l,aE (bq p) el=fQ l:=by
 unfold aE
 cases h:bQ (bq p).elements el with
 | none=>exact .inl rfl
 | some e=>obtain ⟨_,l,hl⟩:=Gs p e (A5 h).1; exact .inr ⟨l,hl⟩
theorem vk (p:Policy) (el:Str):(aE (bq p) el).length≤1000:=by
 rcases nE p el with h | ⟨l,h⟩<;>rw [h]
 · simp
 · have:=DJ l; omega
theorem CS (p:Policy) (el nm:Str) (c:Constraint) (h:dc (bq p) el nm=some c):∃ x,GoodC c x:=by
 simp only [dc,Option.map_eq_some_iff] at h
 obtain ⟨r,hr,rfl⟩:=h
 have hm:=A4 hr
 rcases nE p el with h | ⟨l,h⟩<;>rw [h] at hm
 · simp at hm
 · obtain ⟨c,hc⟩:=kS (l.take 3) [] 0 (by simp) r hm.1
   rw [hc]
   exact EA c
theorem xw {s:Str}:∀ {l:List Allowed},(bQ l s).isSome=false→s ∉ l.map Allowed.name
 | [],_=>by simp
 | x::l,h=>by
   simp only [bQ] at h
   split at h
   · simp at h
   · rename_i hne
     have:=xw h
     simp only [List.map_cons,List.mem_cons,not_or]
     exact ⟨fun e=>hne e.symm,this⟩
theorem nP:∀ (l out:List Allowed) (i:Nat),(out.map Allowed.name).Nodup→((gY i out l).map Allowed.name).Nodup
 | [],out,i,h=>by simpa [gY] using h
 | e::l,out,i,h=>by
   simp only [gY]
   split
   · exact nP l out _ h
   · rename_i hn
     refine nP l _ _ ?_
     have:=xw (by simpa using hn)
     simp only [List.map_append,List.map_cons,List.map_nil]
     rw [List.nodup_append]
     exact ⟨h,by simp,fun a ha b hb e=>this (by simp at hb; rw [←hb,←e]; exact ha)⟩
theorem yj (els:List Allowed) (k:Nat) (own:List Str):(kQ els k own).map Allowed.name=els.map Allowed.name:=by
 unfold kQ
 split
 · rename_i e he
   refine List.ext_getElem? fun i=>?_
   simp only [List.getElem?_map,List.getElem?_set]
   split
   · rename_i h; subst h; rw [he]; split<;>simp_all
   · rfl
 · rfl
theorem lb:∀ (l els:List Allowed) (k:Nat),(i3 k els l).map Allowed.name=els.map Allowed.name
 | [],els,k=>by simp [i3]
 | e::l,els,k=>by simp only [i3]; rw [lb l,yj]
theorem CT (p:Policy):((bq p).elements.map Allowed.name).Nodup:=by
 unfold bq
 simp only
 rw [lb]
 exact nP _ _ _ (by simp)
theorem AB:∀ {a b:List Str},a.Nodup→(∀ s∈a,s∈b)→a.length≤b.length
 | [],b,_,_=>by simp
 | x::a,b,h,hs=>by
   have h1:=List.nodup_cons.1 h
   have hx:=hs x (by simp)
   have:=AB (a:=a) (b:=b.erase x) h1.2 fun s hm=>by
    have hne:s≠x:=fun e=>h1.1 (e ▸ hm)
    exact (List.mem_erase_of_ne hne).2 (hs s (by simp [hm]))
   rw [List.length_erase_of_mem hx] at this
   have:=List.length_pos_of_mem hx
   simp only [List.length_cons]
   omega
theorem IV (p:Policy):(bq p).elements.length≤(gI (bq p) (bq p)).length:=by
 have:=AB (CT p) (b:=gI (bq p) (bq p)) fun s hs=>by
  rw [gI,G0,ry,List.mem_append,ry]
  exact .inl hs
 simpa using this
theorem xq (p:Policy):(bq p).elements.length≤1000:=by
 have h:=congrArg List.length (lb (p.elements.take (gY 0 [] (p.elements.take 5)).length) (gY 0 [] (p.elements.take 5)) 0)
 simp only [List.length_map] at h
 have h2:=oP (p.elements.take 5) [] 0
 unfold bq
 simp only
 rw [h]
 simp at h2
 omega
theorem Ed (p q:Policy) (hp:p.elements.length≤1000) (hq:q.elements.length≤1000) (hpr:∀ el,(aE p el).length≤1000) (hqr:∀ el,(aE q el).length≤1000) (at':Str→Str→List Label) (hat:∀ el nm,(at' el nm).length≤4):(dY p q at').length≤1000000000:=by
 have hEl:∀ el,(bw p q at' el).length≤20000:=fun el=>by
  have h1:=ky (at' el) 4 (bE p q el) fun x _=>hat el x
  have h2:=q8 p q el
  have h3:=hpr el
  have h4:=hqr el
  simp only [bw,List.length_cons]
  omega
 have h1:=ky (bw p q at') 20000 (gI p q) fun x _=>hEl x
 have h2:=wD p q
 simp only [dY,List.length_append,List.length_cons,List.length_nil]
 omega
theorem su (p:Policy) (hR:∀ e∈p.elements,∀ r∈e.rules,r.value.regex.length≤1125899906842624):FnE Tryz.prog bp [p.v] (.bool true):=by
 have h1:=xq p
 have h2:=vk p
 have hv:=CS p
 refine nK p (bq p) (C5 p hR) (dY (bq p) (bq p) (atR (bq p) (bq p))) (nN _ _ h1 h1 h2 h2 _ (Dl _ _) (Mf _ _ hv hv)) (B6 _ hv) ?_ h1 (Ed _ _ h1 h1 h2 h2 _ (Dl _ _))
 have:=B7 (bq p) (bq p) (atR (bq p) (bq p))
 have:=IV p
 omega
end Go.Abs.F
end
