/- The law function of CompileAllows answers true. No condition. -/
import Derived.Test.YtloaikaippankaaGreatDoorQN1
set_option linter.all false set_option maxRecDepth 100000
set_option maxHeartbeats 4000000
open Go.Proofs.Tryz renaming prog→ŷ open List renaming reduceReplicate→zAa
namespace Go.Abs.F
open Go.Proofs Go.Aut
attribute [-simp] getElem?_pos Option.not_isSome List.map_map
def nbA:=ymI Tryz.func24 1 [[0,0,0,3,7,15,0,63,127,255,0,0,1536,3584,7680,0,32256,65024,130560,262143],[0,1,2,3,4,5,6,7,8,9,10,11,12,13,14,15,16,17,18]]
def nbB:=ymI Tryz.func26 2 [[0,0,0,3,7,15,0,0,96,224,480,1023,2047],[0,1,2,3,4,5,6,7,8,9,10,11],[0,0,0,3,7,15,0,0,96,224,480,1023,2047,4095,8191,16383],[0,1,2,3,4,5,6,7,8,9,10,11,12,13,14]]
def nbC:=ymI Tryz.func6 3
theorem nbD:∀ l:List Tr,dw gO l->l.length<=1000000->Fn ŷ 26 [.seq 2 (l.map Tr.v),.seq 2 (l.map Tr.v)] (.bool true):=by
 have key:∀ l:List Tr,l.length<=1000000->(∀ n∈l,Fn ŷ 26 [.seq 2 (n.kids.map Tr.v),.seq 2 (n.kids.map Tr.v)] (.bool true))->Fn ŷ 26 [.seq 2 (l.map Tr.v),.seq 2 (l.map Tr.v)] (.bool true):=by
  intro l hb hrec
  refine Fn.of_image mixed nbB.1 nbB.2 rfl λho=>?_
  simp only[oks,ok,and_true] at ho
  clear ho
  simp(disch:=omega)[-zAa]
  refine ah (λk:Nat=>⟨[(0,.seq 2 (l.map Tr.v)),(1,.seq 2 (l.map Tr.v)),(5,.int .i64 k)],[]⟩) (λk=>k<=l.length) (λk=>l.length - k) [] _ 0 rfl (by simp) (by simp) ?_
  rintro j hj N hN
  rcases Nat.lt_or_ge j l.length with hlt | hge
  ·obtain⟨x,hx⟩:=av hlt
   have hk:=hrec x (List.mem_of_getElem? hx)
   have hxv:=Tr.v_eq x
   simp(disch:=omega)[-zAa,hx,hxv]
   refine aw hk rfl ?_
   simp(disch:=omega)[-zAa,hx,hxv]
   exact hN.out _<|Nx.mk (j+1) (by simp) (by omega) (by omega)
  ·obtain rfl:j=l.length:=by omega
   simp(disch:=omega)[-zAa]
 have all:∀ l:List Tr,dw gO l->∀ n∈l,Fn ŷ 26 [.seq 2 (n.kids.map Tr.v),.seq 2 (n.kids.map Tr.v)] (.bool true):=by
  refine kJ (λ_ n h=>by cases h) ?_
  intro n l h1 h2 ha x hx
  simp only[dw,nR] at ha
  rcases List.mem_cons.1 hx with rfl | hx
  ·exact key x.kids ha.1.1 (h1 ha.1.2)
  ·exact h2 ha.2 x hx
 exact λl ha hl=>key l hl (all l ha)
def dupG:List Attr->List Attr->Bool
 | _,[]=>false
 | pre,a :: l=>CP pre a.name||dupG (pre++[a]) l
mutual
def nbE:Node->Bool
 | ⟨_,_,a,_,ks⟩=>dupG [] a||nbF ks
def nbF:List Node->Bool
 | []=>false
 | n :: l=>nbE n||nbF l
end
theorem nbG (n:Node):nbE n=(dupG [] n.attrs||nbF n.kids):=by cases n; simp only[nbE]
theorem nbH:∀ (l pre:List Attr),dupG pre l=false->(l.map Attr.name).Nodup∧∀ a∈l,CP pre a.name=false
 | [],_,_=>⟨by simp,(λa h=>by cases h)⟩
 | a :: l,pre,h=>by
  simp only[dupG,Bool.or_eq_false_iff] at h
  obtain⟨h1,h2⟩:=nbH l _ h.2
  refine⟨?_,?_⟩
  ·rw[List.map_cons,List.nodup_cons]
   refine⟨λhm=>?_,h1⟩
   obtain⟨x,hx,e⟩:=List.mem_map.1 hm
   have:=h2 x hx
   rw[afK] at this
   have h3:=afL.2 (⟨a,by simp,e.symm⟩:∃ y∈pre++[a],y.name=x.name)
   rw[this] at h3; cases h3
  ·intro x hx
   rcases List.mem_cons.1 hx with rfl | hx
   ·exact h.1
   ·have:=h2 x hx
    rw[afK] at this ⊢
    cases h3:(fT pre x.name).isSome
    ·rfl
    ·obtain⟨y,hy,e⟩:=afL.1 h3
     have h4:=afL.2 (⟨y,by simp[hy],e⟩:∃ y∈pre++[a],y.name=x.name)
     rw[this] at h4; cases h4
theorem nbI:∀ l:List Node,nbF l=false->aq nbs l:=by
 refine aE (λ_=>trivial) ?_
 intro n l h1 h2 h
 simp only[nbF,nbG,Bool.or_eq_false_iff] at h
 simp only[aq,bE]
 exact⟨⟨(nbH _ _ h.1.1).1,h1 h.1.2⟩,h2 h.2⟩
theorem nbJ:∀ l:List Node,aq wV l->Fn ŷ 24 [.seq 5 (l.map Node.v)] (.bool (nbF l)):=by
 have key:∀ l:List Node,(∀ n∈l,Fn ŷ 24 [.seq 5 (n.kids.map Node.v)] (.bool (nbF n.kids)))->aq wV l->Fn ŷ 24 [.seq 5 (l.map Node.v)] (.bool (nbF l)):=by
  intro l hrec hfi
  refine Fn.of_image mixed nbA.1 nbA.2 rfl λho=>?_
  simp only[oks,ok,and_true] at ho
  have hlen:l.length<=140737488355328:=by have:=ho.1; simpa using this
  clear ho
  simp(disch:=omega)[-zAa]
  generalize hr:nbF l=r
  refine ah (λk:Nat=>⟨[(0,.seq 5 (l.map Node.v)),(3,.int .i64 k)],[]⟩) (λk=>k<=l.length∧nbF (l.drop k)=r) (λk=>l.length - k) [] _ 0 rfl (by simp[*]) (by simp[*]) ?_
  rintro k ⟨hk,hi⟩ N hN
  rcases place l k hk with ⟨he,hd⟩ | ⟨hlt,x,hx,hd⟩ <;> rw[hd] at hi <;> replace hi:=hid hi
  ·have hi:=hi.out
   simp only[nbF] at hi
   subst hi
   simp(disch:=omega)[-zAa,he]
  ·have hxm:=List.mem_of_getElem? hx
   have hfx:x.attrs.length<=5:=(dB hfi hxm).1
   simp only[nbF,nbG] at hi
   have bad:(dupG [] x.attrs||nbF x.kids)=true->r=true:=λh=>by have hi:=hi.out; rw[h] at hi; simpa using hi.symm
   have good:(dupG [] x.attrs||nbF x.kids)=false->nbF (l.drop (k+1))=r:=λh=>by have hi:=hi.out; rw[h] at hi; simpa using hi
   replace bad:=hid bad
   replace good:=hid good
   clear hi
   simp(disch:=omega)[-zAa,hx]
   refine ah (λ(j:Nat)=>⟨[(0,.seq 5 (l.map Node.v)),(3,.int .i64 k),(4,.int .i64 j)],[]⟩)
    (λj=>j<=x.attrs.length∧dupG (x.attrs.take j) (x.attrs.drop j)=dupG [] x.attrs) (λj=>x.attrs.length - j) [] _ 0 rfl (by simp) (by simp) ?_
   rintro j ⟨hj,hi⟩ N2 hN2
   rcases place x.attrs j hj with ⟨he2,hd2⟩ | ⟨hlt2,y,hy,hd2⟩ <;> rw[hd2] at hi
   ·simp only[dupG] at hi
    simp(disch:=omega)[-zAa,hx,he2]
    refine aa (hrec x hxm) rfl λ_=>?_
    simp(disch:=omega)[-zAa]
    refine BrK.mk (λh2=>?_) (λh2=>?_)
    ·simp(disch:=omega)[-zAa]
     have hb:=bad.out (by simp[h2])
     simp[hb]
    ·simp(disch:=omega)[-zAa]
     refine hN.out _<|Nx.mk (k+1) (by simp) ⟨by omega,good.out (by simp[<-hi,h2])⟩ (by omega)
   ·simp only[dupG] at hi
    replace hi:=hid hi
    simp(disch:=omega)[-zAa,hx]
    refine ah (λ(i:Nat)=>⟨[(0,.seq 5 (l.map Node.v)),(3,.int .i64 k),(4,.int .i64 j),(5,.int .i64 i)],[]⟩)
     (λi=>i<=j∧CP (x.attrs.take j) y.name=CP ((x.attrs.take j).drop i) y.name) (λi=>j - i) [] _ 0 rfl (by simp) (by simp) ?_
    rintro i ⟨hij,hi2⟩ N3 hN3
    by_cases hlt3:i < j
    ·obtain⟨z,hz⟩:=av (l:=x.attrs) (k:=i) (by omega)
     rw[take_drop hz hlt3,CP] at hi2
     replace hi2:=hid hi2
     simp(disch:=omega)[-zAa,hx,hy,hz]
     refine BrKd.mk (λh=>?_) (λh=>?_)
     ·simp(disch:=omega)[-zAa,h]
      have hi2:=hi2.out
      rw[if_pos h] at hi2
      have hi:=hi.out
      rw[hi2,Bool.true_or] at hi
      have hb:=bad.out (by simp[<-hi])
      simp[hb]
     ·simp(disch:=omega)[-zAa,h]
      have hi2:=hi2.out
      rw[if_neg h] at hi2
      exact hN3.out _<|Nx.mk (i+1) (by simp) ⟨by omega,hi2⟩ (by omega)
    ·have e:(x.attrs.take j).drop i=[]:=by simp; omega
     rw[e,CP] at hi2
     have hi:=hi.out
     rw[hi2,Bool.false_or] at hi
     simp(disch:=omega)[-zAa]
     refine hN2.out _<|Nx.mk (j+1) (by simp) ⟨by omega,?_⟩ (by omega)
     rw[bk hy]
     exact hi
 have all:∀ l:List Node,∀ n∈l,aq wV n.kids->Fn ŷ 24 [.seq 5 (n.kids.map Node.v)] (.bool (nbF n.kids)):=by
  refine aE (λx hx=>by cases hx) ?_
  intro n l h1 h2 x hx
  rcases List.mem_cons.1 hx with rfl | hx
  ·exact λh=>key x.kids (λy hy=>h1 y hy (dB h hy).2) h
  ·exact h2 x hx
 exact λl h=>key l (λn hn=>all l n hn (dB h hn).2) h
theorem nbK (p q:Policy) (n:List Node) (ts:List Tr) (hl:(aY (ai p) (ai q)).length<=189)
  (hts:bc (aY (ai p) (ai q)) (bf (ai p) (ai q) (aY (ai p) (ai q))) (bR n)=some ts) (hok:iC allows12 (ai p) (bR n)=true) :
  Fn ŷ fy [.seq 7 ((aY (ai p) (ai q)).map Label.v),.seq 2 (ts.map Tr.v)] (.seq 5 ((br (aY (ai p) (ai q)) ts).map Node.v)) ∧
  Fn ŷ 24 [.seq 5 ((br (aY (ai p) (ai q)) ts).map Node.v)] (.bool (nbF (br (aY (ai p) (ai q)) ts))) ∧
  Fn ŷ 26 [.seq 2 (ts.map Tr.v),.seq 2 (ts.map Tr.v)] (.bool true) ∧
  Fn ŷ iE [(ai p).v,(ai q).v,.seq 7 ((aY (ai p) (ai q)).map Label.v),.seq 5 ((br (aY (ai p) (ai q)) ts).map Node.v)] (BQ (some ts)) ∧
  (nbF (br (aY (ai p) (ai q)) ts)=false->Fn ŷ zh [(ai p).v,.seq 5 ((br (aY (ai p) (ai q)) ts).map Node.v)] (.bool true)):=by
 have hst:=zr n
 obtain⟨hnd,hnt⟩:=Y9 n
 obtain⟨hfi,hfc,hft⟩:=Gs n
 have hf5:=Ww n
 have hf2:=WJ hf5 hfi
 have hcl:=tI (bR n)
 have hp:=eD p
 have hq:=eD q
 have h1:=Qd hp hq (nI p)
 have e1:=Jk (nI p) hst
 rw[hok] at e1
 have hin:=(UL _ _ _ 1000 _ hf2 ts hts).1
 have hkf:=QM (λt (h:inR _ t)=>h.2) _ hin
 have hlen:=ou _ _ hts
 obtain⟨⟨g1,g2⟩,g3,g4,g5⟩:=nbz hp hq (bR n) hnd hfi hf5 (nby _ _ _ hnd e1.symm) ts hts
 have hag:=(nbf hp hq (bR n) hnd ts hts).1
 have g6:=WJ g2 g1
 have htr:=mK _ _ _ 1000 (Gv p q) (br (aY (ai p) (ai q)) ts) (KX g6) (by omega)
 rw[hag] at htr
 refine⟨uy _ (by omega) ts hkf (by omega),nbJ _ g2,nbD ts hkf (by omega),htr,λhtw=>?_⟩
 have hsm:=nbu hp hq hst hts (nbI _ htw)
 have e2:=Jk (nI p) hsm
 have hmm:lW false (br (aY (ai p) (ai q)) ts)=0:=by
  simp only[vu,may,Bool.and_eq_true] at hsm
  exact of_decide_eq_true hsm.1
 obtain⟨m1,m2⟩:=R0 _ false hmm
 have a1:=O8 h1 _ m1 m2 ts hag
 have a2:=O8 h1 _ hnd hnt ts hts
 rw[a2,<-e1] at a1
 have h15:=OG allows12 (ai p) (E0 p) (br (aY (ai p) (ai q)) ts) (aiK _ g1) (aiL _ g1 (by omega)) (by omega)
 rw[e2,<-a1] at h15
 exact h15
theorem nbL (p q:Policy) (n:List Node) (hR:∀ e∈p.elements,∀ r∈e.rules,r.value.regex.length<=1125899906842624) (hR':∀ e∈q.elements,∀ r∈e.rules,r.value.regex.length<=1125899906842624) :
  FnE ŷ 6 [p.v,q.v,.seq 5 (n.map Node.v)] (.bool true):=by
 have hg:=j3 p hR
 have hg':=j3 q hR'
 have hn:=C8 n
 have hlab:=ra p q
 have hll:=CB p q
 have ht:=Pi p q n
 have hag:=nbK p q n
 have hF:=λhl=>mL (ai p) (aY (ai p) (ai q)) hl (j0 p)
 have hlv:=q8
 unfold HedgeP.v at hF ht
 generalize bc (aY (ai p) (ai q)) (bf (ai p) (ai q) (aY (ai p) (ai q))) (bR n)=T at *
 generalize ba (ai p) (aY (ai p) (ai q)) Label.one=H1 at *
 generalize ba (ai q) (aY (ai p) (ai q)) Label.two=H2 at *
 generalize aY (ai p) (ai q)=L at *
 generalize iC allows12 (ai p) (bR n)=o1 at *
 generalize iC allows12 (ai q) (bR n)=o2 at *
 generalize ai p=a at *
 generalize ai q=b at *
 generalize bR n=s at *
 refine FnE.of_image mixed nbC.1 nbC.2 rfl λho=>?_
 clear ho
 simp(disch:=omega)[-zAa]
 refine ae hg (by simp) λ_=>?_
 simp(disch:=omega)[-zAa]
 refine ae hg' (by simp) λ_=>?_
 simp(disch:=omega)[-zAa]
 refine ae hn (by simp) λ_=>?_
 simp(disch:=omega)[-zAa]
 refine ae hlab (by simp) λ_=>?_
 simp(disch:=omega)[-zAa]
 by_cases hl:L.length<=189
 ·have hl':¬ (189:Int) < L.length:=by omega
  obtain⟨t1,t2,t3⟩:=ht hl
  have hF:=hF (by omega)
  simp(disch:=omega)[-zAa,hl']
  refine ae t1 (by simp) λ_=>?_
  simp(disch:=omega)[-zAa,BQ]
  cases T with
  | none =>
   simp(disch:=omega)[-zAa]
   refine aa hlv rfl λ_=>?_
   simp(disch:=omega)[-zAa]
  | some ts =>
   obtain⟨a1,a2⟩:=t3 ts rfl
   simp(disch:=omega)[-zAa]
   refine ae hF (by simp) λ_=>?_
   simp(disch:=omega)[-zAa]
   refine aa a1 rfl λ_=>?_
   cases o1 with
   | false =>
    simp(disch:=omega)[-zAa]
    refine aa hlv rfl λ_=>?_
    simp(disch:=omega)[-zAa]
   | true =>
    obtain⟨b1,b2,b3,b4,b5⟩:=hag ts hl rfl rfl
    generalize br L ts=M at *
    simp(disch:=omega)[-zAa]
    refine ae b1 (by simp) λ_=>?_
    simp(disch:=omega)[-zAa]
    refine aa b2 rfl λ_=>?_
    cases htw:nbF M with
    | true =>
     simp(disch:=omega)[-zAa]
     refine aa hlv rfl λ_=>?_
     simp(disch:=omega)[-zAa]
    | false =>
     have b5:=b5 htw
     simp(disch:=omega)[-zAa]
     refine ae b4 (by simp) λ_=>?_
     simp(disch:=omega)[-zAa,BQ]
     refine aa b5 rfl λ_=>?_
     simp(disch:=omega)[-zAa]
     refine aa b3 rfl λ_=>?_
     simp(disch:=omega)[-zAa]
     refine aa hlv rfl λ_=>?_
     simp(disch:=omega)[-zAa]
 ·have hl':(189:Int) < L.length:=by omega
  simp(disch:=omega)[-zAa,hl']
  refine aa hlv rfl λ_=>?_
  simp(disch:=omega)[-zAa]
end Go.Abs.F
