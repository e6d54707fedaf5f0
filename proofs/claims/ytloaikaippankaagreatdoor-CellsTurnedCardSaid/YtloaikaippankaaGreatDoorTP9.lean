/-
  Plain: a kind's least value is one alone; turned round; of the same policy twice there is none that one alone allows. No condition.
  What cells.Labels answers: the labels of two policies. No condition.
  What law 17's example answers. No condition.
  Of a policy and itself no label tells that one of both alone allows. No condition.
  CellsSelf: of a policy and itself no label tells that one of both alone allows. No condition.
  Plain: what 'Good' makes of a policy has good constraints and few rules. No condition.
  Plain: the names of the elements that 'Good' leaves are all different; so there is a label for each. No condition.
  Plain: there is a label for each element that 'Good' leaves. No condition.
  Plain: the labels of two policies turned round are the same, with One and Two changed. No condition.
  CellsTurned: the labels of two policies turned round are the same, with One and Two changed: the walk. No condition.
-/
import Derived.Test.YtloaikaippankaaGreatDoorTP1
import Derived.Test.YtloaikaippankaaGreatDoorTF17
set_option linter.unusedVariables false
set_option linter.unusedSimpArgs false
set_option linter.unusedSectionVars false
section
set_option maxHeartbeats 4000000
set_option maxRecDepth 100000
namespace Go.Abs.F
open Go.Proofs
attribute [-simp] getElem?_pos Option.not_isSome List.map_map
theorem w9:∀ s t:Str,s.length=t.length→Op.bytesLess s t=true∨s=t∨Op.bytesLess t s=true
 | [],[],_=>.inr (.inl rfl)
 | [],y::t,h=>by simp at h
 | x::s,[],h=>by simp at h
 | x::s,y::t,h=>by
   simp only [Op.bytesLess,Bool.or_eq_true,Bool.and_eq_true,decide_eq_true_eq,beq_iff_eq,UInt8.lt_iff_toNat_lt]
   rcases Nat.lt_trichotomy x.toNat y.toNat with h1 | h1 | h1
   · exact .inl (.inl h1)
   · have e:x=y:=UInt8.toNat_inj.1 h1
     subst e
     rcases w9 s t (by simpa using h) with h2 | h2 | h2
     · exact .inl (.inr ⟨rfl,h2⟩)
     · exact .inr (.inl (by rw [h2]))
     · exact .inr (.inr (.inr ⟨rfl,h2⟩))
   · exact .inr (.inr (.inl h1))
theorem Fo (s t:Str):ue s t∨s=t∨ue t s:=by
 unfold ue
 rcases Nat.lt_trichotomy s.length t.length with h | h | h
 · exact .inl (.inl h)
 · rcases w9 s t h with h1 | h1 | h1
   · exact .inl (.inr ⟨h,h1⟩)
   · exact .inr (.inl h1)
   · exact .inr (.inr (.inr ⟨h.symm,h1⟩))
 · exact .inr (.inr (.inl h))
theorem Hd {f g:Str→Bool} {f1 f2:Bool}:∀ {r r':Option (List Nat)},jS f g f1 f2 r→jS f g f1 f2 r'→r=r'
 | none,none,_,_=>rfl
 | none,some w,h,h'=>absurd h'.2.2.1 fun e=>h _ (iT h'.1) h'.2.1 e
 | some w,none,h,h'=>absurd h.2.2.1 fun e=>h' _ (iT h.1) h.2.1 e
 | some w,some w',h,h'=>by
   have k1:=h.2.2.2 _ (iT h'.1) h'.2.1 h'.2.2.1
   have k2:=h'.2.2.2 _ (iT h.1) h.2.1 h.2.2.1
   rcases Fo (aT w) (aT w') with h1 | h1 | h1
   · exact absurd h1 k2
   · have:=congrArg sw h1
     rw [rE h.1,rE h'.1] at this
     rw [this]
   · exact absurd h1 k1
theorem yd {f g:Str→Bool} {f1 f2:Bool}:∀ {r:Option (List Nat)},jS f g f1 f2 r→jS g f f2 f1 r
 | none,h=>fun s hs k1 k2=>h s hs k2 k1
 | some w,h=>⟨h.1,h.2.2.1,h.2.1,fun s hs k1 k2=>h.2.2.2 s hs k2 k1⟩
theorem kG {f g:Str→Bool} {f1 f2:Bool} {r:Option (List Nat)} (h:jS f g f1 f2 r):kH f g f1 f2=r:=by
 have hex:∃ r,jS f g f1 f2 r:=⟨r,h⟩
 unfold kH
 rw [dif_pos hex]
 exact Hd (Classical.choose_spec hex) h
end Go.Abs.F
end
section
set_option maxHeartbeats 4000000
set_option maxRecDepth 100000
namespace Go.Abs.F
open Go.Proofs Go.Aut
attribute [-simp] getElem?_pos Option.not_isSome List.map_map
theorem d5 {Φ:Ctr} {d:Option Nat} {K:St→Prop} {σ:St} (ps:List Nat) (q:Nat) (m:List Nat) {f:FuncId} {vs us:List V} {H H':List (Option Ob)} {r:V} (hc:σ.curs (bH vs ps)=true) (hl:dY σ.h (bH vs ps) vs=(q,m)) (hu:cW m vs=us) (hH:fD σ.h m m=H)
 (h:Φ.e f ps us H r H') (hk:kin q H H'=true) (k:K (St.put ⟨σ.r,σ.back q m H'⟩ d (bck (t6 q m σ.h.length H'.length) r))):oB Φ d f vs K σ:=by
 refine ⟨ps,hc,r,H',?_,?_,?_⟩
 · rw [hl,hH]; exact hk
 · rw [hl,hu,hH]; exact h
 · rw [hl]; exact k
def iq (k:Int) (el:Str):Label:=⟨k,el,[],false,[],false,false⟩
def bD (p q:Policy) (at':Str→Str→List Label) (el:Str):List Label:=iq 3 el::(bq p q el).flatMap (at' el)
def jV (p q:Policy):List Str:=dd (srt (srt (p.elements.map Allowed.name)++srt (q.elements.map Allowed.name)))
def d3 (p q:Policy) (at':Str→Str→List Label):List Label:=[iq 1 [],iq 2 []]++(jV p q).flatMap (bD p q at')
theorem kC {α β:Type} (f:α→List β) (n:Nat):∀ (l:List α),(∀ x∈l,(f x).length≤n)→(l.flatMap f).length≤n * l.length
 | [],_=>by simp
 | x::l,h=>by
   have h1:=h x (by simp)
   have h2:=kC f n l fun y hy=>h y (by simp [hy])
   simp only [List.flatMap_cons,List.length_append,List.length_cons,Nat.mul_add]
   omega
theorem rk (p q:Policy) (el:Str):(bq p q el).length≤2 * ((aE p el).length + (aE q el).length):=by
 have hc:bq p q el=dd (srt (cw (aE p el++aE q el)))++dd (srt (eh (aE p el++aE q el))):=rfl
 rw [hc,List.length_append]
 have h1:=t7 (srt (cw (aE p el++aE q el)))
 have h2:=t7 (srt (eh (aE p el++aE q el)))
 have h3:=qD (aE p el++aE q el)
 have h4:=tu (aE p el++aE q el)
 rw [de] at h1 h2
 simp only [List.length_append] at h3 h4
 omega
theorem wN (p q:Policy):(jV p q).length≤p.elements.length + q.elements.length:=by
 unfold jV
 have:=t7 (srt (srt (p.elements.map Allowed.name)++srt (q.elements.map Allowed.name)))
 simp only [de,List.length_append,List.length_map] at this
 exact this
theorem jd (p q:Policy) (hp:p.elements.length≤1000) (hq:q.elements.length≤1000) (hpr:∀ el,(aE p el).length≤1000) (hqr:∀ el,(aE q el).length≤1000)
 (at':Str→Str→List Label) (hat:∀ el nm,(at' el nm).length≤4)
 (hA:∀ el nm,Fn Tryz.prog d9 [p.v,q.v,.str el,.str nm,.str (a8 (bq p q el) nm)] (.seq 7 ((at' el nm).map Label.v))):
 Fn Tryz.prog iZ [p.v,q.v] (.seq 7 ((d3 p q at').map Label.v)):=by
 refine Fn.of_imageE mixed xA xl rfl fun ho=>?_
 unfold ot
 simp only [oks,ok,and_true] at ho
 clear ho
 simp (disch:=omega) [-List.reduceReplicate]
 refine aF (nR p hp) (by simp) ?_
 simp (disch:=omega) [-List.reduceReplicate]
 refine aF (nR q hq) (by simp) ?_
 simp (disch:=omega) [-List.reduceReplicate]
 have hcc:=vz (srt (p.elements.map Allowed.name)) (srt (q.elements.map Allowed.name)) (by simp only [de,List.length_map]; omega)
 have hnl:=wN p q
 obtain ⟨A,hAe⟩:∃ A,A=srt (p.elements.map Allowed.name)++srt (q.elements.map Allowed.name):=⟨_,rfl⟩
 have hAl:A.length≤2000:=by rw [hAe]; simp only [List.length_append,de,List.length_map]; omega
 have hNe:jV p q=dd (srt A):=by rw [hAe]; rfl
 rw [←hAe] at hcc
 have s1:=fX A (by omega)
 have c1:=fL (srt A) (by rw [de]; omega)
 rw [de] at c1
 have l1:=de A
 refine d5 [] 0 [] (by simp) (by simp) (by simp) (by simp) hcc (by simp) ?_
 clear hcc hAe
 simp (disch:=omega) [-List.reduceReplicate]
 refine ah [0] 1 [3] (by simp) (by simp) (by simp) (by simp) s1 (by simp) fun _ _=>?_
 simp (disch:=omega) [-List.reduceReplicate,l1]
 refine ah [] 0 [3] (by simp) (by simp) (by simp) (by simp) c1 (by simp) fun _ _=>?_
 simp (disch:=omega) [-List.reduceReplicate,l1]
 simp only [d3,hNe]
 have hDl:(dd (srt A)).length≤2000:=by have:=t7 (srt A); omega
 generalize dd (srt A)=D at *
 clear hNe hnl c1 s1 l1
 have hEl:∀ el,(bD p q at' el).length≤20000:=fun el=>by
  have h1:=kC (at' el) 4 (bq p q el) fun x _=>hat el x
  have h2:=rk p q el
  have h3:=hpr el
  have h4:=hqr el
  simp only [bD,List.length_cons]
  omega
 refine ak (fun k:Nat=>⟨[(2,.ptr 0 0),(3,.ptr 1 0),(5,.ref 2 ([iq 1 [],iq 2 []]++(D.take k).flatMap (bD p q at')).length),(24,.ref 3 D.length),(25,.int .i64 D.length),(26,.int .i64 k)],
  [some (.box [.seq 1 (p.top.map .str),.seq 3 (p.elements.map Allowed.v),.seq 1 (p.unwrap.map .str)]),some (.box [.seq 1 (q.top.map .str),.seq 3 (q.elements.map Allowed.v),.seq 1 (q.unwrap.map .str)]),some (.arr ez 7 (([iq 1 [],iq 2 []]++(D.take k).flatMap (bD p q at')).map Label.v)),some (.arr au 1 (D.map .str))]⟩)
  (fun k=>k≤D.length) (fun k=>D.length - k) [] _ 0 rfl (by simp [iq,Label.v]) (by simp) ?_
 rintro k hk N hN
 have hPl:([iq 1 [],iq 2 []]++(D.take k).flatMap (bD p q at')).length≤50000000:=by
  have:=kC (bD p q at') 20000 (D.take k) fun x _=>hEl x
  simp only [List.length_append,List.length_cons,List.length_nil,List.length_take] at this ⊢
  omega
 rcases Nat.lt_or_ge k D.length with hlt | hge
 · obtain ⟨x,hx⟩:=ap hlt
   have hstep:[iq 1 [],iq 2 []]++(D.take (k + 1)).flatMap (bD p q at')=([iq 1 [],iq 2 []]++(D.take k).flatMap (bD p q at'))++(iq 3 x::(bq p q x).flatMap (at' x)):=by simp [List.take_add_one,hx,bD]
   have hC:=xS p q x (hpr x) (hqr x)
   have hAx:=hA x
   have hatx:=hat x
   have hcl:(bq p q x).length≤4000:=by have:=rk p q x; have:=hpr x; have:=hqr x; omega
   generalize [iq 1 [],iq 2 []]++(D.take k).flatMap (bD p q at')=P at *
   generalize bq p q x=C at *
   simp (disch:=omega) [-List.reduceReplicate,hx]
   refine aj hC (by simp) fun _=>?_
   simp (disch:=omega) [-List.reduceReplicate]
   refine ak (fun j:Nat=>⟨[(2,.ptr 0 0),(3,.ptr 1 0),(5,.ref 2 (P++(iq 3 x::(C.take j).flatMap (at' x))).length),(8,.str x),(9,.seq 1 (C.map .str)),(24,.ref 3 D.length),(25,.int .i64 D.length),(26,.int .i64 k),(39,.seq 1 (C.map .str)),(40,.int .i64 C.length),(41,.int .i64 j)],
    [some (.box [.seq 1 (p.top.map .str),.seq 3 (p.elements.map Allowed.v),.seq 1 (p.unwrap.map .str)]),some (.box [.seq 1 (q.top.map .str),.seq 3 (q.elements.map Allowed.v),.seq 1 (q.unwrap.map .str)]),some (.arr ez 7 ((P++(iq 3 x::(C.take j).flatMap (at' x))).map Label.v)),some (.arr au 1 (D.map .str))]⟩)
    (fun j=>j≤C.length) (fun j=>C.length - j) [] _ 0 rfl (by simp [iq,Label.v]) (by simp) ?_
   rintro j hj N' hN'
   have hQl:(P++(iq 3 x::(C.take j).flatMap (at' x))).length≤60000000:=by
    have:=kC (at' x) 4 (C.take j) fun y _=>hatx y
    simp only [List.length_append,List.length_cons,List.length_take] at this ⊢
    omega
   rcases Nat.lt_or_ge j C.length with hlt2 | hge2
   · obtain ⟨y,hy⟩:=ap hlt2
     have hst2:P++(iq 3 x::(C.take (j + 1)).flatMap (at' x))=(P++(iq 3 x::(C.take j).flatMap (at' x)))++at' x y:=by simp [List.take_add_one,hy]
     have h4:=hatx y
     have hAy:=hAx y
     generalize P++(iq 3 x::(C.take j).flatMap (at' x))=R at *
     simp (disch:=omega) [-List.reduceReplicate,hy]
     refine aF (gN C (by omega) y) (by simp) ?_
     simp (disch:=omega) [-List.reduceReplicate]
     refine aF hAy (by simp) ?_
     simp (disch:=omega) [-List.reduceReplicate]
     exact hN'.out _<|Nx.mk (j + 1) (by simp [hst2]) (by omega) (by omega)
   · obtain rfl:j=C.length:=by omega
     simp only [List.take_length] at *
     simp (disch:=omega) [-List.reduceReplicate]
     exact hN.out _<|Nx.mk (k + 1) (by simp [hstep]) (by omega) (by omega)
 · obtain rfl:k=D.length:=by omega
   simp only [List.take_length] at *
   simp (disch:=omega) [-List.reduceReplicate]
end Go.Abs.F
end
section
set_option maxHeartbeats 1000000
set_option maxRecDepth 100000
namespace Go.Abs.F
open Go.Proofs Go.Aut
attribute [-simp] getElem?_pos Option.not_isSome List.map_map
def gJ:Policy:=⟨[],[⟨[97],[],[]⟩],[]⟩
theorem QI:sd []=[]:=by simp [sd,srt,dd]
theorem LM:jV gJ gJ=[[97]]:=by
 have h:=th (srt (gJ.elements.map Allowed.name)++srt (gJ.elements.map Allowed.name))
 refine qw h (by simp) fun s=>?_
 rw [jV,G9,vH,List.mem_append,vH]
 simp [gJ]
theorem oI (el:Str):aE gJ el=[]:=by
 simp only [aE,gJ,bX]
 split<;>rfl
theorem MC (el:Str):bq gJ gJ el=[]:=by simp [bq,oI,QI]
theorem Jo (at':Str→Str→List Label):(d3 gJ gJ at').length=3:=by
 simp [d3,LM,bD,MC]
noncomputable def atR (p q:Policy) (el nm:Str):List Label:=
 dZ el (a8 (bq p q el) nm) (c5 nm) (kH (cD p el (a8 (bq p q el) nm)) (cD q el (a8 (bq p q el) nm)) true true) (kH (cD p el (a8 (bq p q el) nm)) (cD q el (a8 (bq p q el) nm)) true false)
  (kH (cD p el (a8 (bq p q el) nm)) (cD q el (a8 (bq p q el) nm)) false true) (kH (cD p el (a8 (bq p q el) nm)) (cD q el (a8 (bq p q el) nm)) false false) 4
theorem vU (p q:Policy) (el nm:Str):(atR p q el nm).length≤4:=by
 simp only [atR,dZ,List.length_append]
 refine Nat.le_trans (Nat.add_le_add (Nat.add_le_add (Nat.add_le_add co co) co) co) (by decide)
theorem G2 (p q:Policy) (hp:∀ el nm c,dJ p el nm=some c→∃ x,GoodC c x) (hq:∀ el nm c,dJ q el nm=some c→∃ x,GoodC c x) (el nm:Str):
 Fn Tryz.prog d9 [p.v,q.v,.str el,.str nm,.str (a8 (bq p q el) nm)] (.seq 7 ((atR p q el nm).map Label.v)):=by
 obtain ⟨r0,r1,r2,r3,c0,c1,c2,c3,hl,hV⟩:=xR p q el (a8 (bq p q el) nm) (hp el _) (hq el _)
 have:=rh p q el nm _ hl hV
 unfold atR
 rw [kG c0,kG c1,kG c2,kG c3]
 exact this
theorem Ab:Fn Tryz.prog yP [] (.bool true):=by
 have h1:a8 [[105,100],[100,97,116,97,45,42]] [105,100]=[105,100]:=by decide
 have h2:a8 [[105,100],[100,97,116,97,45,42]] [100,97,116,97,45,42]=[100,97,116,97,45]:=by decide
 have f1:=gN [[105,100],[100,97,116,97,45,42]] (by decide) [105,100]
 have f2:=gN [[105,100],[100,97,116,97,45,42]] (by decide) [100,97,116,97,45,42]
 rw [h1] at f1
 rw [h2] at f2
 have hno:∀ el nm c,dJ gJ el nm=some c→∃ x,GoodC c x:=fun el nm c h=>by simp [dJ,oI,gX] at h
 have f3:=jd gJ gJ (by decide) (by decide) (fun el=>by rw [oI]; simp) (fun el=>by rw [oI]; simp) (atR gJ gJ) (vU gJ gJ) (G2 gJ gJ hno hno)
 have h3:=Jo (atR gJ gJ)
 generalize d3 gJ gJ (atR gJ gJ)=L at *
 simp [gJ] at f1 f2 f3
 clear h1 h2 hno
 refine Fn.of_image mixed zK zk rfl fun ho=>?_
 unfold qg
 simp only [oks,ok,and_true] at ho
 clear ho
 simp (disch:=omega) [-List.reduceReplicate]
 refine aj f1 (by simp) fun _=>?_
 simp (disch:=omega) [-List.reduceReplicate]
 refine aj f2 (by simp) fun _=>?_
 simp (disch:=omega) [-List.reduceReplicate]
 refine aj f3 (by simp) fun _=>?_
 simp (disch:=omega) [-List.reduceReplicate,h3]
end Go.Abs.F
end
section
set_option maxHeartbeats 1000000
set_option maxRecDepth 100000
namespace Go.Abs.F
open Go.Proofs Go.Aut
attribute [-simp] getElem?_pos Option.not_isSome List.map_map
end Go.Abs.F

end
section
set_option maxHeartbeats 1000000
set_option maxRecDepth 100000
namespace Go.Abs.F
open Go.Proofs Go.Aut
attribute [-simp] getElem?_pos Option.not_isSome List.map_map
end Go.Abs.F

end
section
set_option maxHeartbeats 1000000
set_option maxRecDepth 100000
namespace Go.Abs.F
open Go.Proofs Go.Aut
attribute [-simp] getElem?_pos Option.not_isSome List.map_map
theorem kY:∀ (l out:List Rule) (i:Nat),(∀ r∈out,∃ c,r.value=good12 c)→∀ r∈fS i out l,∃ c,r.value=good12 c
 | [],out,i,h=>by simpa [fS] using h
 | x::l,out,i,h=>by
   simp only [fS]
   split
   · exact kY l out _ h
   · refine kY l _ _ fun r hr=>?_
     rcases List.mem_append.1 hr with hr | hr
     · exact h r hr
     · simp at hr; subst hr
       unfold gu
       split<;>exact ⟨_,rfl⟩
theorem nL (p:Policy) (el:Str):aE (dw p) el=[]∨∃ l,aE (dw p) el=fT l:=by
 unfold aE
 cases h:bX (dw p).elements el with
 | none=>exact .inl rfl
 | some e=>obtain ⟨_,l,hl⟩:=GB p e (Bg h).1; exact .inr ⟨l,hl⟩
theorem mf (p:Policy) (el:Str):(aE (dw p) el).length≤1000:=by
 rcases nL p el with h | ⟨l,h⟩<;>rw [h]
 · simp
 · have:=DP l; omega
theorem sq (p:Policy) (el nm:Str) (c:Constraint) (h:dJ (dw p) el nm=some c):∃ x,GoodC c x:=by
 simp only [dJ,Option.map_eq_some_iff] at h
 obtain ⟨r,hr,rfl⟩:=h
 have hm:=Bf hr
 rcases nL p el with h | ⟨l,h⟩<;>rw [h] at hm
 · simp at hm
 · obtain ⟨c,hc⟩:=kY (l.take 3) [] 0 (by simp) r hm.1
   rw [hc]
   exact EI c
theorem yw (els:List Allowed) (k:Nat) (own:List Str):(kW els k own).map Allowed.name=els.map Allowed.name:=by
 unfold kW
 split
 · rename_i e he
   refine List.ext_getElem? fun i=>?_
   simp only [List.getElem?_map,List.getElem?_set]
   split
   · rename_i h; subst h; rw [he]; split<;>simp_all
   · rfl
 · rfl
theorem sb:∀ (l els:List Allowed) (k:Nat),(i4 k els l).map Allowed.name=els.map Allowed.name
 | [],els,k=>by simp [i4]
 | e::l,els,k=>by simp only [i4]; rw [sb l,yw]
theorem nM (p:Policy):(dw p).elements.length≤1000:=by
 have h:=congrArg List.length (sb (p.elements.take (kD 0 [] (p.elements.take 5)).length) (kD 0 [] (p.elements.take 5)) 0)
 simp only [List.length_map] at h
 have h2:=oU (p.elements.take 5) [] 0
 unfold dw
 simp only
 rw [h]
 simp at h2
 omega
theorem BM {l m:List Str} (h:∀ s,s∈l↔s∈m):sd l=sd m:=
 qw (th l) (th m) fun s=>by rw [Ld,Ld,h s]
theorem nW (p q:Policy) (el:Str):bq q p el=bq p q el:=by
 unfold bq
 congr 1
 · refine BM fun s=>?_
   simp only [List.mem_filter,List.mem_map,List.mem_append]
   constructor<;>(rintro ⟨⟨r,h,rfl⟩,k⟩; exact ⟨⟨r,h.symm,rfl⟩,k⟩)
 · refine BM fun s=>?_
   simp only [List.mem_filter,List.mem_map,List.mem_append]
   constructor<;>(rintro ⟨⟨r,h,rfl⟩,k⟩; exact ⟨⟨r,h.symm,rfl⟩,k⟩)
theorem D7 (p q:Policy):jV q p=jV p q:=by
 unfold jV
 refine BM fun s=>?_
 rw [List.mem_append,List.mem_append,or_comm]
theorem lD (f g:Str→Bool) (f1 f2:Bool):kH g f f2 f1=kH f g f1 f2:=by
 by_cases h:∃ r,jS f g f1 f2 r
 · obtain ⟨r,hr⟩:=h
   rw [kG hr,kG (yd hr)]
 · unfold kH
   rw [dif_neg h,dif_neg fun ⟨r,hr⟩=>h ⟨r,yd hr⟩]
theorem El {el ex:Str} {mn a b:Bool} {r:Option (List Nat)}:(lab el ex mn a b r).map Label.swap=lab el ex mn b a r:=by
 cases r<;>rfl
theorem Fj (p q:Policy) (el nm:Str):(atR q p el nm).length=(atR p q el nm).length∧∀ l∈atR p q el nm,l.swap∈atR q p el nm:=by
 unfold atR
 rw [nW p q el]
 generalize a8 (bq p q el) nm=x
 rw [lD (cD p el x) (cD q el x) true true,lD (cD p el x) (cD q el x) false true,lD (cD p el x) (cD q el x) true false,lD (cD p el x) (cD q el x) false false]
 generalize kH (cD p el x) (cD q el x) true true=r0
 generalize kH (cD p el x) (cD q el x) true false=r1
 generalize kH (cD p el x) (cD q el x) false true=r2
 generalize kH (cD p el x) (cD q el x) false false=r3
 have hs:∀ {l:Label} {a b r},l∈lab el x (c5 nm) a b r→l.swap∈lab el x (c5 nm) b a r:=fun {l a b r} h=>by
  rw [←El]; exact List.mem_map.2 ⟨l,h,rfl⟩
 have hn:∀ {a b r},(lab el x (c5 nm) a b r).length=(lab el x (c5 nm) b a r).length:=fun {a b r}=>by
  rw [←El,List.length_map]
 refine ⟨?_,fun l h=>?_⟩
 · simp only [dZ,List.length_append]
   rw [hn (a:=true) (b:=false) (r:=r2),hn (a:=false) (b:=true) (r:=r1)]
   omega
 · simp only [dZ,List.mem_append] at h ⊢
   rcases h with ((h | h) | h) | h
   · exact .inl (.inl (.inl (hs h)))
   · exact .inl (.inr (hs h))
   · exact .inl (.inl (.inr (hs h)))
   · exact .inr (hs h)
theorem fg {α β:Type} {f g:α→List β} (h:∀ x,(f x).length=(g x).length):∀ l:List α,(l.flatMap f).length=(l.flatMap g).length
 | []=>rfl
 | x::l=>by simp only [List.flatMap_cons,List.length_append,h x,fg h l]
theorem Ch (p q:Policy):(d3 q p (atR q p)).length=(d3 p q (atR p q)).length∧∀ l∈d3 p q (atR p q),l.swap∈d3 q p (atR q p):=by
 unfold d3
 rw [D7]
 refine ⟨?_,fun l h=>?_⟩
 · simp only [List.length_append]
   congr 1
   refine fg (fun el=>?_) _
   simp only [bD,List.length_cons]
   rw [nW,fg (fun nm=>(Fj p q el nm).1)]
 · simp only [List.mem_append,List.mem_cons,List.not_mem_nil,or_false,List.mem_flatMap,bD] at h ⊢
   rcases h with (rfl | rfl) | ⟨el,he,rfl | ⟨nm,hm,h⟩⟩
   · exact .inl (.inl rfl)
   · exact .inl (.inr rfl)
   · exact .inr ⟨el,he,.inl rfl⟩
   · exact .inr ⟨el,he,.inr ⟨nm,by rw [nW]; exact hm,(Fj p q el nm).2 l h⟩⟩
theorem JN (x y:Label):eqK x.v y.v=decide (x=y):=by
 obtain ⟨a,b,c,d,e,f,g⟩:=x
 obtain ⟨a',b',c',d',e',f',g'⟩:=y
 rw [Bool.eq_iff_iff,decide_eq_true_eq,Label.mk.injEq]
 simp [eqK,cl,jf,Label.v,eqC,and_assoc]
theorem H8 (a a':Int) (b c e b' c' e':Str) (d f g d' f' g':Bool):eqK (.strct [.int .i64 a,.str b,.str c,.bool d,.str e,.bool f,.bool g]) (.strct [.int .i64 a',.str b',.str c',.bool d',.str e',.bool f',.bool g'])=decide ((⟨a,b,c,d,e,f,g⟩:Label)=⟨a',b',c',d',e',f',g'⟩):=
 JN ⟨a,b,c,d,e,f,g⟩ ⟨a',b',c',d',e',f',g'⟩
theorem Be (a:Int) (b c e:Str) (d f g:Bool):aO ⟨true,[.i .i64,.s,.s,.b,.s,.b,.b]⟩ (.strct [.int .i64 a,.str b,.str c,.bool d,.str e,.bool f,.bool g])=true:=by
 simp [aO,dA,cl,aZ,kOf,ay]
theorem lu (p q a b:Policy) (hA:Fn Tryz.prog lc [p.v] a.v) (hB:Fn Tryz.prog lc [q.v] b.v) (L M:List Label) (hL:Fn Tryz.prog iZ [a.v,b.v] (.seq 7 (L.map Label.v))) (hM:Fn Tryz.prog iZ [b.v,a.v] (.seq 7 (M.map Label.v)))
 (hl:M.length=L.length) (hs:∀ l∈L,l.swap∈M) (hLb:L.length≤1000000000):
 FnE Tryz.prog aV [p.v,q.v] (.bool true):=by
 refine FnE.of_image mixed dS pp rfl fun ho=>?_
 unfold hZ
 clear ho
 have hlv:=Ab
 simp (disch:=omega) [-List.reduceReplicate]
 refine aj hA (by simp) fun _=>?_
 simp (disch:=omega) [-List.reduceReplicate]
 refine aj hB (by simp) fun _=>?_
 simp (disch:=omega) [-List.reduceReplicate]
 refine aj hL (by simp) fun _=>?_
 simp (disch:=omega) [-List.reduceReplicate]
 refine aj hM (by simp) fun _=>?_
 simp (disch:=omega) [-List.reduceReplicate,hl]
 refine ak (fun k:Nat=>⟨[(7,.seq 7 (L.map Label.v)),(8,.seq 7 (M.map Label.v)),(9,.int .i64 k)],[]⟩) (fun k=>k≤L.length) (fun k=>L.length - k) [] _ 0 rfl (by simp) (by simp) ?_
 rintro k hk N hN
 rcases Nat.lt_or_ge k L.length with hlt | hge
 · obtain ⟨x,hx⟩:=ap hlt
   have hxM:=hs x (List.mem_of_getElem? hx)
   simp (disch:=omega) [-List.reduceReplicate,hx]
   refine ak (fun j:Nat=>⟨[(7,.seq 7 (L.map Label.v)),(8,.seq 7 (M.map Label.v)),(9,.int .i64 k),(10,.bool ((M.take j).any fun y=>decide (y.swap=x))),(11,.int .i64 j)],[]⟩) (fun j=>j≤M.length) (fun j=>M.length - j) [] _ 0 rfl (by simp) (by simp) ?_
   rintro j hj N' hN'
   rcases Nat.lt_or_ge j M.length with hlt2 | hge2
   · obtain ⟨y,hy⟩:=ap hlt2
     have hst:(M.take (j + 1)).any (fun y=>decide (y.swap=x))=((M.take j).any (fun y=>decide (y.swap=x)) || decide (y.swap=x)):=by simp [List.take_add_one,hy]
     generalize (M.take j).any (fun y=>decide (y.swap=x))=had at *
     have hyv:y.v=.strct [.int .i64 y.kind,.str y.element,.str y.name,.bool y.many,.str y.value,.bool y.one,.bool y.two]:=rfl
     have hxv:x.v=.strct [.int .i64 x.kind,.str x.element,.str x.name,.bool x.many,.str x.value,.bool x.one,.bool x.two]:=rfl
     have hsw:(⟨y.kind,y.element,y.name,y.many,y.value,y.two,y.one⟩:Label)=y.swap:=rfl
     cases had
     · simp (disch:=omega) [-List.reduceReplicate,hx,hy,hyv,hxv,H8,Be,hsw]
       exact hN'.out _<|Nx.mk (j + 1) (by simp [hst]) (by omega) (by omega)
     · simp (disch:=omega) [-List.reduceReplicate,hx,hy,hyv,hxv,H8,Be,hsw]
       exact hN'.out _<|Nx.mk (j + 1) (by simp [hst]) (by omega) (by omega)
   · obtain rfl:j=M.length:=by omega
     have hany:M.any (fun y=>decide (y.swap=x))=true:=by
      rw [List.any_eq_true]
      exact ⟨x.swap,hxM,by simp [Label.swap]⟩
     simp only [List.take_length,hany] at *
     simp (disch:=omega) [-List.reduceReplicate]
     exact hN.out _<|Nx.mk (k + 1) (by simp) (by omega) (by omega)
 · obtain rfl:k=L.length:=by omega
   simp (disch:=omega) [-List.reduceReplicate]
   refine ae hlv rfl fun _=>?_
   simp (disch:=omega) [-List.reduceReplicate]
end Go.Abs.F
end
