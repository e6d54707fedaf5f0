/-
  The states that words of one length reach; the shortest word that is taken. No condition.
  Values that a constraint allows, and its automaton's words; LangExamples' function answers true. No condition.
  Within of package lang; LangKinds' function answers true. No condition.
  Cells of package lang. No condition.
-/
import Derived.Test.YtloaikaippankaaGreatDoorTTh6
import Derived.Test.YtloaikaippankaaGreatDoorTTh14
set_option linter.unusedVariables false
set_option linter.unusedSimpArgs false
set_option linter.unusedSectionVars false
section
namespace Go.Aut
theorem BE {a:Aut} (ha:a.ok):∀ (w:List Nat) {p:Nat},p < a.n→(∀ c∈w,c < 95)→w.foldl a.δ p < a.n
 | [],_,hp,_=>hp
 | c::w,_,hp,h=>BE ha w (ha.lt hp (h c (by simp))) fun c hc=>h c (by simp [hc])
end Go.Aut
end
section
set_option maxHeartbeats 1000000
set_option maxRecDepth 100000
namespace Go.Abs
open Go.Proofs Go.Aut
attribute [-simp] getElem?_pos Option.not_isSome List.map_map
theorem fA (w:List Nat):(aT w).length=w.length:=by simp [aT]
theorem BK {c:Nat} (h:c < 95):sgn (UInt8.ofNat (32 + c))=true∧(UInt8.ofNat (32 + c)).toNat=32 + c:=by
 have:(UInt8.ofNat (32 + c)).toNat=32 + c:=by rw [UInt8.toNat_ofNat']; omega
 refine ⟨?_,this⟩
 simp only [sgn,this,Bool.and_eq_true,decide_eq_true_eq]
 omega
theorem v6:∀ (u v:List Nat),(∀ c∈u,c < 95)→(∀ c∈v,c < 95)→u.length=v.length→Op.bytesLess (aT u) (aT v)=true→ph u v
 | [],[],_,_,_,h=>by simp [aT,Op.bytesLess] at h
 | [],_::_,_,_,hl,_=>by simp at hl
 | _::_,[],_,_,hl,_=>by simp at hl
 | a::u,b::v,hu,hv,hl,h=>by
   have ha:=hu a (by simp)
   have hb:=hv b (by simp)
   have h1:=(BK ha).2
   have h2:=(BK hb).2
   simp only [aT,List.map_cons,Op.bytesLess,Bool.or_eq_true,Bool.and_eq_true,decide_eq_true_eq,beq_iff_eq,UInt8.lt_iff_toNat_lt,h1,h2] at h
   rcases h with h | ⟨h,h3⟩
   · exact .inl (by omega)
   · have:a=b:=by
      have:=congrArg UInt8.toNat h
      rw [h1,h2] at this; omega
     exact .inr ⟨this,v6 u v (fun c hc=>hu c (by simp [hc])) (fun c hc=>hv c (by simp [hc])) (by simpa using hl) h3⟩
theorem iT {w:List Nat} (h:∀ c∈w,c < 95):dp (aT w):=fun b hb=>by
 simp only [aT,List.mem_map] at hb
 obtain ⟨c,hc,rfl⟩:=hb
 rw [(BK (h c hc)).2]
 have:=h c hc
 omega
theorem rE:∀ {w:List Nat},(∀ c∈w,c < 95)→sw (aT w)=w
 | [],_=>rfl
 | c::w,h=>by
   have h1:=(BK (h c (by simp))).2
   have ih:=rE (w:=w) fun c hc=>h c (by simp [hc])
   simp only [sw,aT,List.map_cons,List.cons.injEq] at ih ⊢
   exact ⟨by rw [h1]; omega,by simpa [List.map_map] using ih⟩
theorem kg:∀ {s:Str},dp s→aT (sw s)=s
 | [],_=>rfl
 | b::s,h=>by
   have hb:=h b (by simp)
   have ih:=kg (s:=s) fun c hc=>h c (by simp [hc])
   have e:UInt8.ofNat (32 + (b.toNat - 32))=b:=by rw [show 32 + (b.toNat - 32)=b.toNat by omega,UInt8.ofNat_toNat]
   simp only [sw,aT,List.map_cons,List.cons.injEq] at ih ⊢
   exact ⟨e,by simpa [List.map_map] using ih⟩
theorem Nc {a:Aut}:∀ (w:List Nat) (q:Nat),(∀ c∈w,c < 95)→a.L q w=a.F (w.foldl a.δ q)
 | [],q,_=>rfl
 | c::w,q,h=>by
   have ih:=Nc (a:=a) w (a.δ q c) fun c hc=>h c (by simp [hc])
   simp only [Aut.L,nl,lang,if_pos (h c (by simp)),List.foldl_cons] at ih ⊢
   exact ih
def ue (s t:Str):Prop:=s.length < t.length∨(s.length=t.length∧Op.bytesLess s t=true)
theorem Bw {s:Str} {w:List Nat} (hs:dp s) (hw:∀ c∈w,c < 95) (h:ue s (aT w)):wlt (sw s) w:=by
 have e:=kg hs
 have hl:(sw s).length=s.length:=by simp [sw]
 rcases h with h | ⟨h,h2⟩
 · exact .inl (by rw [fA] at h; omega)
 · rw [fA] at h
   refine .inr ⟨by omega,v6 (sw s) w (jC hs) hw (by omega) (by rw [e]; exact h2)⟩
theorem jT.acc {c:F.Constraint} {x:Rx} {b:Aut} (h:GoodC c x) (hb:jT x b) (s:Str):F.allows12 c s=true↔dp s∧b.F ((sw s).foldl b.δ 0)=true:=by
 rw [Dt h]
 refine and_congr_right fun hs=>?_
 obtain ⟨_,_,_,_,_,_,_,hL⟩:=hb
 rw [←hL _ (jC hs),Nc _ _ (jC hs)]
theorem jT.ok {x:Rx} {b:Aut} (hb:jT x b):b.ok∧b.n≤500:=by
 obtain ⟨_,_,_,_,_,hok,hn,_⟩:=hb
 exact ⟨hok,hn⟩
theorem Fe {x y:Bool} (h:x=true↔y=true):x=y:=by
 cases x<;>cases y<;>simp_all
theorem HK {a b:Aut} (ha:a.ok) (hb:b.ok) (op:Bool→Bool→Bool):∃ r,dE (cf a b) (fK a b op) (a.n * b.n + 1) 0 [(0,0)] [[]]=some r∧Ik (cf a b) (0,0) (fK a b op) r:=by
 have hD:∀ (q:Nat × Nat) (c:Nat),(q.1 < a.n∧q.2 < b.n)→c < 95→((cf a b q c).1 < a.n∧(cf a b q c).2 < b.n):=fun q c hq hc=>⟨ha.lt hq.1 hc,hb.lt hq.2 hc⟩
 have h0:LInv (cf a b) (0,0) (fun q=>q.1 < a.n∧q.2 < b.n) 0 0 [(0,0)] [[]]:=LInv.begin ⟨ha.pos,hb.pos⟩
 obtain ⟨r,hr⟩:=sa hD (fun l h1 h2=>gb h2 h1) (good:=fK a b op) (a.n * b.n + 1) 0 [(0,0)] [[]] h0 (by simp) (by omega)
 exact ⟨r,hr,r9 hD _ _ _ _ r h0 (by simp) (fun k hk=>by omega) hr⟩
end Go.Abs
end
section
set_option maxHeartbeats 2000000
set_option maxRecDepth 100000
namespace Go.Abs
open Go.Proofs Go.Aut
attribute [-simp] getElem?_pos Option.not_isSome List.map_map
theorem OV {a:Aut} (ha:a.ok):(na a).ok:=⟨ha.pos,by simp [na,Aut.n]; exact ha.fin,ha.rows⟩
theorem Ri {a:Aut}:(na a).n=a.n:=rfl
theorem Rj {a:Aut} {q:Nat} (ha:a.ok) (hq:q < a.n):(na a).F q=!a.F q:=by
 obtain ⟨f,hf⟩:=ap (l:=a.final) (k:=q) (by rw [ha.fin]; exact hq)
 have h1:a.F q=f:=by show fin a.final q=f; simp only [fin,hf,Option.getD_some]
 have h2:(na a).F q=!f:=by show fin (a.final.map (!·)) q=!f; simp only [fin,List.getElem?_map,hf,Option.map_some,Option.getD_some]
 rw [h1,h2]
def flip (f:Bool) (a:Aut):Aut:=if f then a else na a
theorem d4 {f:Bool} {a:Aut} (ha:a.ok):(flip f a).ok:=by cases f<;>simp [flip,ha,OV]
theorem nN {f:Bool} {a:Aut}:(flip f a).n=a.n:=by cases f<;>simp [flip,Ri]
theorem C4 {f:Bool} {a:Aut}:(flip f a).δ=a.δ:=by cases f<;>rfl
theorem Mk {f:Bool} {a:Aut} {q:Nat} (ha:a.ok) (hq:q < a.n):(flip f a).F q=true↔a.F q=f:=by
 cases f
 · simp [flip,Rj ha hq]
 · simp [flip]
def ug (c d:F.Constraint) (f1 f2:Bool):Option (List Nat)→Prop
 | none=>∀ s:Str,dp s→F.allows12 c s=f1→F.allows12 d s=f2→False
 | some w=>(∀ u∈w,u < 95)∧F.allows12 c (aT w)=f1∧F.allows12 d (aT w)=f2∧∀ s:Str,dp s→F.allows12 c s=f1→F.allows12 d s=f2→¬ue s (aT w)
theorem Hp {c:F.Constraint} {x:Rx} {a:Aut} (hc:GoodC c x) (ha:jT x a) {w:List Nat} (hw:∀ u∈w,u < 95) (f:Bool):(flip f a).F (w.foldl a.δ 0)=true↔F.allows12 c (aT w)=f:=by
 rw [Mk ha.ok.1 (BE ha.ok.1 w ha.ok.1.pos hw)]
 have h:=jT.acc hc ha (aT w)
 rw [rE hw] at h
 have h2:=iT hw
 have:F.allows12 c (aT w)=a.F (w.foldl a.δ 0):=Fe (by rw [h]; exact ⟨fun h=>h.2,fun h=>⟨h2,h⟩⟩)
 rw [this]
theorem DE {K:Type} {step:K→Nat→K} {D:K→Prop} (hD:∀ q c,D q→c < 95→D (step q c)):∀ (w:List Nat) {p:K},D p→(∀ c∈w,c < 95)→D (w.foldl step p)
 | [],p,hp,_=>hp
 | c::w,p,hp,h=>DE hD w (hD p c hp (h c (by simp))) fun x hx=>h x (by simp [hx])
theorem FM {K:Type} {step:K→Nat→K} {D:K→Prop} (hD:∀ q c,D q→c < 95→D (step q c)) {N:Nat} (hN:∀ l:List K,(∀ x∈l,D x)→l.Nodup→l.length≤N) {p:K} (hp:D p):∀ (m:Nat) (w:List Nat),w.length≤m→(∀ c∈w,c < 95)→∃ v:List Nat,v.length < N + 1∧v.length≤w.length∧(∀ c∈v,c < 95)∧v.foldl step p=w.foldl step p
 | m,w,hm,hw=>by
   rcases Nat.lt_or_ge w.length (N + 1) with h | h
   · exact ⟨w,h,Nat.le_refl _,hw,rfl⟩
   · obtain ⟨P,hP⟩:∃ P,P=(List.range (w.length + 1)).map fun k=>(w.take k).foldl step p:=⟨_,rfl⟩
     have hPl:P.length=w.length + 1:=by simp [hP]
     have hPg:∀ k,k < w.length + 1→P[k]?=some ((w.take k).foldl step p):=fun k hk=>by rw [hP,List.getElem?_map,List.getElem?_range hk]; rfl
     have hnd:¬P.Nodup:=fun hnd=>by
      have:=hN P (fun x hx=>by
       rw [hP,List.mem_map] at hx
       obtain ⟨k,_,rfl⟩:=hx
       exact DE hD _ hp fun c hc=>hw c (List.mem_of_mem_take hc)) hnd
      omega
     have hex:∃ i j,i < j∧j < w.length + 1∧(w.take i).foldl step p=(w.take j).foldl step p:=by
      apply Classical.byContradiction
      intro hno
      apply hnd
      rw [List.nodup_iff_pairwise_ne,List.pairwise_iff_getElem]
      intro i j hi hj hij e
      refine hno ⟨i,j,hij,by omega,?_⟩
      have h1:=hPg i (by omega)
      have h2:=hPg j (by omega)
      rw [List.getElem?_eq_getElem hi] at h1
      rw [List.getElem?_eq_getElem hj] at h2
      simp only [Option.some.injEq] at h1 h2
      rw [←h1,←h2,e]
     obtain ⟨i,j,hij,hj,e⟩:=hex
     have hlen:(w.take i++w.drop j).length < w.length:=by simp; omega
     cases m with
     | zero=>omega
     | succ m=>
       obtain ⟨v,h1,h2,h3,h4⟩:=FM hD hN hp m (w.take i++w.drop j) (by omega) fun c hc=>by
        rcases List.mem_append.1 hc with hc | hc
        · exact hw c (List.mem_of_mem_take hc)
        · exact hw c (List.mem_of_mem_drop hc)
       refine ⟨v,h1,by omega,h3,?_⟩
       rw [h4,List.foldl_append,e,←List.foldl_append,List.take_append_drop]
theorem vT {c d:F.Constraint} {x y:Rx} {a b:Aut} (hc:GoodC c x) (hd:GoodC d y) (ha:jT x a) (hb:jT y b) (f1 f2:Bool):
 ∃ r,Fn Tryz.prog lg [.strct (Aut.c (flip f1 a)),.strct (Aut.c (flip f2 b))] (o9 r)∧ug c d f1 f2 r∧∀ w,r=some w→w.length < 250001:=by
 have h1:=ha.ok
 have h2:=hb.ok
 obtain ⟨r,hr,hI⟩:=HK (d4 (f:=f1) h1.1) (d4 (f:=f2) h2.1) fun x y=>x && y
 have hfn:=sI (d4 (f:=f1) h1.1) (d4 (f:=f2) h2.1) (by rw [nN]; exact h1.2) (by rw [nN]; exact h2.2) r hr
 have key:∀ w:List Nat,(∀ u∈w,u < 95)→(fK (flip f1 a) (flip f2 b) (fun x y=>x && y) (w.foldl (cf (flip f1 a) (flip f2 b)) (0,0))=true↔(F.allows12 c (aT w)=f1∧F.allows12 d (aT w)=f2)):=fun w hw=>by
  rw [wn,fK,C4,C4,Bool.and_eq_true,Hp hc ha hw,Hp hd hb hw]
 refine ⟨r,hfn,?_,fun w hw=>?_⟩
 · cases r with
   | none=>
     intro s hs k1 k2
     have h3:=hI (sw s) (jC hs)
     have h4:=(key (sw s) (jC hs)).2 (by rw [kg hs]; exact ⟨k1,k2⟩)
     rw [h4] at h3; cases h3
   | some w=>
     obtain ⟨k1,k2⟩:=(key w hI.1).1 hI.2.1
     refine ⟨hI.1,k1,k2,fun s hs g1 g2 hah=>?_⟩
     exact hI.2.2 (sw s) (jC hs) ((key (sw s) (jC hs)).2 (by rw [kg hs]; exact ⟨g1,g2⟩)) (Bw hs hI.1 hah)
 · subst hw
   have hab:a.n * b.n≤250000:=Nat.le_trans (Nat.mul_le_mul h1.2 h2.2) (by decide)
   have e1:=d4 (f:=f1) h1.1
   have e2:=d4 (f:=f2) h2.1
   have hn1:(flip f1 a).n=a.n:=nN
   have hn2:(flip f2 b).n=b.n:=nN
   obtain ⟨v,g1,g2,g3,g4⟩:=FM (step:=cf (flip f1 a) (flip f2 b)) (D:=fun q=>q.1 < (flip f1 a).n∧q.2 < (flip f2 b).n) (fun q c hq hc=>⟨e1.lt hq.1 hc,e2.lt hq.2 hc⟩) (N:=(flip f1 a).n * (flip f2 b).n) (fun l k1 k2=>gb k2 k1) (p:=(0,0)) ⟨e1.pos,e2.pos⟩ w.length w (Nat.le_refl _) hI.1
   have h5:=hI.2.2 v g3 (by rw [g4]; exact hI.2.1)
   have h6:¬v.length < w.length:=fun h=>h5 (.inl h)
   rw [hn1,hn2] at g1
   omega
def ba:Option (List Nat)→Str
 | none=>[]
 | some w=>43::aT w
theorem f5 (r:Option (List Nat)) (h:∀ w,r=some w→w.length < 250001):∃ (w:Str) (o:Bool),o9 r=.tup [.str w,.bool o]∧ba r=(if o then 43::w else [])∧w.length < 250001:=by
 cases r with
 | none=>exact ⟨[],false,rfl,rfl,by simp⟩
 | some w=>exact ⟨aT w,true,rfl,rfl,by rw [fA]; exact h w rfl⟩
def upS (k i:Nat) (s:Str):V:=.str (if i < k then s else [])
theorem Di {c d:F.Constraint} {x y:Rx} (hc:GoodC c x) (hd:GoodC d y):∃ r0 r1 r2 r3,ug c d true true r0∧ug c d true false r1∧ug c d false true r2∧ug c d false false r3∧(∀ r∈[r0,r1,r2,r3],∀ w,r=some w→w.length < 250001)∧
 Fn Tryz.prog B8 [c.v,d.v] (.strct [.str (ba r0),.str (ba r1),.str (ba r2),.str (ba r3)]):=by
 obtain ⟨a,ha⟩:=hc.aut
 obtain ⟨b,hb⟩:=hd.aut
 obtain ⟨r0,k0,c0,l0⟩:=vT hc hd ha hb true true
 obtain ⟨r1,k1,c1,l1⟩:=vT hc hd ha hb true false
 obtain ⟨r2,k2,c2,l2⟩:=vT hc hd ha hb false true
 obtain ⟨r3,k3,c3,l3⟩:=vT hc hd ha hb false false
 refine ⟨r0,r1,r2,r3,c0,c1,c2,c3,fun r hr=>?_,?_⟩
 · simp only [List.mem_cons,List.not_mem_nil,or_false] at hr
   rcases hr with rfl | rfl | rfl | rfl
   · exact l0
   · exact l1
   · exact l2
   · exact l3
 have h1:=nS hc ha
 have h2:=nS hd hb
 have n1:=oT ha.ok.1 ha.ok.2
 have n2:=oT hb.ok.1 hb.ok.2
 simp only [flip,if_true,Bool.false_eq_true,if_false] at k0 k1 k2 k3
 clear c0 c1 c2 c3 ha hb hc hd
 have e1:(na a).next=a.next:=rfl
 have e2:(na b).next=b.next:=rfl
 simp only [Aut.c,dh,C6,e1,e2] at h1 h2 n1 n2 k0 k1 k2 k3
 obtain ⟨A,hA⟩:∃ A,A=a.next.map bL:=⟨_,rfl⟩
 obtain ⟨A',hA'⟩:∃ A,A=a.final.map V.bool:=⟨_,rfl⟩
 obtain ⟨A2,hA2⟩:∃ A,A=(na a).final.map V.bool:=⟨_,rfl⟩
 obtain ⟨B,hB⟩:∃ A,A=b.next.map bL:=⟨_,rfl⟩
 obtain ⟨B',hB'⟩:∃ A,A=b.final.map V.bool:=⟨_,rfl⟩
 obtain ⟨B2,hB2⟩:∃ A,A=(na b).final.map V.bool:=⟨_,rfl⟩
 rw [←hA,←hA'] at h1 n1
 rw [←hB,←hB'] at h2 n2
 rw [←hA2] at n1
 rw [←hB2] at n2
 rw [←hA,←hA',←hB,←hB'] at k0
 rw [←hA,←hA',←hB,←hB2] at k1
 rw [←hA,←hA2,←hB,←hB'] at k2
 rw [←hA,←hA2,←hB,←hB2] at k3
 clear e1 e2 hA hA' hA2 hB hB' hB2
 obtain ⟨w0,o0,p0,q0,m0⟩:=f5 r0 l0
 obtain ⟨w1,o1,p1,q1,m1⟩:=f5 r1 l1
 obtain ⟨w2,o2,p2,q2,m2⟩:=f5 r2 l2
 obtain ⟨w3,o3,p3,q3,m3⟩:=f5 r3 l3
 rw [p0] at k0
 rw [p1] at k1
 rw [p2] at k2
 rw [p3] at k3
 obtain ⟨s0,hs0⟩:∃ s,s=ba r0:=⟨_,rfl⟩
 obtain ⟨s1,hs1⟩:∃ s,s=ba r1:=⟨_,rfl⟩
 obtain ⟨s2,hs2⟩:∃ s,s=ba r2:=⟨_,rfl⟩
 obtain ⟨s3,hs3⟩:∃ s,s=ba r3:=⟨_,rfl⟩
 rw [←hs0,←hs1,←hs2,←hs3]
 rw [q0] at hs0
 rw [q1] at hs1
 rw [q2] at hs2
 rw [q3] at hs3
 clear p0 p1 p2 p3 q0 q1 q2 q3 l0 l1 l2 l3
 refine Fn.of_image mixed CT Cz rfl fun ho=>?_
 unfold sR
 simp only [oks,ok,and_true] at ho
 clear ho
 obtain ⟨kc,wc,rc⟩:=c
 obtain ⟨kd,wd,rd⟩:=d
 simp at h1 h2
 simp (disch:=omega) [-List.reduceReplicate]
 refine aF h1 (by simp) ?_
 simp (disch:=omega) [-List.reduceReplicate]
 refine aF h2 (by simp) ?_
 simp (disch:=omega) [-List.reduceReplicate]
 refine ct ⟨[(4,.ptr 0 0),(5,.ptr 1 0),(6,.ptr 2 0)],[some (.box [.str [],.str [],.str [],.str []]),some (.box [.seq 1 A,.seq 1 A']),some (.box [.seq 1 B,.seq 1 B'])]⟩ (fun F hF=>?_) ?_
 · try simp at hF
   repeat' (first
    | exact hF
    | refine BC.mk ?_ ?_
    | (simp (disch:=omega) [-List.reduceReplicate]))
 simp (disch:=omega) [-List.reduceReplicate]
 refine aF n1 (by simp) ?_
 simp (disch:=omega) [-List.reduceReplicate]
 refine aF n2 (by simp) ?_
 simp (disch:=omega) [-List.reduceReplicate]
 refine ct ⟨[(4,.ptr 0 0),(5,.ptr 1 0),(6,.ptr 2 0),(7,.ptr 3 0),(8,.ptr 4 0)],[some (.box [.str [],.str [],.str [],.str []]),some (.box [.seq 1 A,.seq 1 A']),some (.box [.seq 1 B,.seq 1 B']),some (.box [.seq 1 A,.seq 1 A2]),some (.box [.seq 1 B,.seq 1 B2])]⟩ (fun F hF=>?_) ?_
 · try simp at hF
   repeat' (first
    | exact hF
    | refine BC.mk ?_ ?_
    | (simp (disch:=omega) [-List.reduceReplicate]))
 simp (disch:=omega) [-List.reduceReplicate]
 clear h1 h2 n1 n2
 refine ak (fun k:Nat=>⟨[(4,.ptr 0 0),(10,.ptr 1 0),(36,.strct [.seq 1 A,.seq 1 A',.seq 1 B,.seq 1 B',.seq 1 A,.seq 1 A',.seq 1 B,.seq 1 B2,.seq 1 A,.seq 1 A2,.seq 1 B,.seq 1 B',.seq 1 A,.seq 1 A2,.seq 1 B,.seq 1 B2]),(37,nV k)],
  [some (.box [.str [],.str [],.str [],.str []]),some (.box [upS k 0 s0,upS k 1 s1,upS k 2 s2,upS k 3 s3])]⟩) (fun k=>k≤4) (fun k=>4 - k) [] _ 0 rfl (by simp [upS]) (by simp) ?_
 intro k hk N hN
 have hkk:k=0∨k=1∨k=2∨k=3∨k=4:=by omega
 rcases hkk with rfl | rfl | rfl | rfl | rfl
 · simp (disch:=omega) [-List.reduceReplicate,upS]
   refine ae k0 rfl fun _=>?_
   cases o0 with
   | true=>
     simp (disch:=omega) [-List.reduceReplicate]
     exact hN.out _<|Nx.mk 1 (by simp [upS,hs0]) (by simp) (by simp)
   | false=>
     simp (disch:=omega) [-List.reduceReplicate]
     exact hN.out _<|Nx.mk 1 (by simp [upS,hs0]) (by simp) (by simp)
 · simp (disch:=omega) [-List.reduceReplicate,upS]
   refine ae k1 rfl fun _=>?_
   cases o1 with
   | true=>
     simp (disch:=omega) [-List.reduceReplicate]
     exact hN.out _<|Nx.mk 2 (by simp [upS,hs1]) (by simp) (by simp)
   | false=>
     simp (disch:=omega) [-List.reduceReplicate]
     exact hN.out _<|Nx.mk 2 (by simp [upS,hs1]) (by simp) (by simp)
 · simp (disch:=omega) [-List.reduceReplicate,upS]
   refine ae k2 rfl fun _=>?_
   cases o2 with
   | true=>
     simp (disch:=omega) [-List.reduceReplicate]
     exact hN.out _<|Nx.mk 3 (by simp [upS,hs2]) (by simp) (by simp)
   | false=>
     simp (disch:=omega) [-List.reduceReplicate]
     exact hN.out _<|Nx.mk 3 (by simp [upS,hs2]) (by simp) (by simp)
 · simp (disch:=omega) [-List.reduceReplicate,upS]
   refine ae k3 rfl fun _=>?_
   cases o3 with
   | true=>
     simp (disch:=omega) [-List.reduceReplicate]
     exact hN.out _<|Nx.mk 4 (by simp [upS,hs3]) (by simp) (by simp)
   | false=>
     simp (disch:=omega) [-List.reduceReplicate]
     exact hN.out _<|Nx.mk 4 (by simp [upS,hs3]) (by simp) (by simp)
 · simp (disch:=omega) [-List.reduceReplicate,upS]
end Go.Abs
end
