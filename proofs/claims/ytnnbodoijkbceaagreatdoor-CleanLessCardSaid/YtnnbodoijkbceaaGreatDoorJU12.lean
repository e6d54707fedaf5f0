/- CleanAllows's function answers true. No condition. -/
import Derived.Test.YtnnbodoijkbceaaGreatDoorJR17
set_option linter.all false
set_option maxHeartbeats 0
set_option maxRecDepth 100000
open List renaming reduceReplicate→zAa,mem_of_getElem?→zAb,any_eq_true→zAc
open Bool renaming and_eq_true→zAd
section
namespace Go.Abs.F
open Go.Proofs Go.RowKit
attribute [-simp] getElem?_pos Option.not_isSome List.map_map
theorem ru(p:Policy):∀e∈(bK p).elements,e.rules.length<=1000000:=fun e he=>(LG p).2.2 e he |>.2
theorem GR(p:Policy)(l:List Node)(hb:SizeB l):Fn Tryz.prog dI [(bK p).v,.seq 5 (l.map Node.v)] (.seq 5 ((dP allows12 (bK p) l).map Node.v)):=
 gQ (bK p) (uo p) (pz p) (ru p) l hb
theorem Hm{a b:List Attr}:gH a b=true↔∀x∈a,x∈b:=by
 unfold gH;rw[List.all_eq_true];refine forall_congr' fun x=>imp_congr_right fun _=>?_;unfold Lw;rw[zAc];constructor
 ·rintro⟨y,hy,h⟩
  simp only[zAd,decide_eq_true_eq]at h;rw[(eqA x y).2 h];exact hy
 ·exact fun h=>⟨x,h,by simp⟩
def xI(m n:Node):Bool:=decide (n.kind=1)&&decide (n.name=m.name)&&gH m.attrs n.attrs
theorem RX{m n:Node}:xI m n=true↔n.kind=1/\n.name=m.name/\∀a∈m.attrs,a∈n.attrs:=by
 unfold xI;simp only[zAd,decide_eq_true_eq,Hm,and_assoc]
theorem uA (p:Policy) (l:List Node) (hR:∀ e∈p.elements,∀ r∈e.rules,r.value.regex.length≤1125899906842624):FnE Tryz.prog bT [p.v,.seq 5 (l.map Node.v)] (.bool true):=by
 refine FnE.of_image mixed ud.1 ud.2 rfl fun ho=>?_
 clear ho
 have hg:=GI p hR
 have h3:=GO l
 have sa:=HJ l
 have sc:=yL allows12 (bK p) sa
 have ca:=GR p _ sa
 have lo:=GS (bK p) (uo p) (pz p) (ru p) _ sa
 have wa:=pF _ (show aN (cR l)≤1000000000 by have:=sa.wt; omega)
 have wc:=pF _ (show aN (dP allows12 (bK p) (cR l))≤1000000000 by have:=sc.wt; omega)
 have aa:=wV _ (show aj (cR l)≤1000000 by have:=sa.cnt; omega)
 have ac:=wV _ (show aj (dP allows12 (bK p) (cR l))≤1000000 by have:=sc.cnt; omega)
 have hle:=Ml allows12 (bK p) (cR l)
 have hin:=GV allows12 (bK p) (cR l)
 have la:(dQ (cR l)).length < 1000:=by rw [vf]; exact sa.cnt
 have lc:(dQ (dP allows12 (bK p) (cR l))).length < 1000:=by rw [vf]; exact sc.cnt
 have ta:∀ n∈dQ (cR l),n.attrs.length≤1000000:=(Bb _).1 (dK (fun n h _=>h.2.1) _ sa.att)
 have tc:∀ n∈dQ (dP allows12 (bK p) (cR l)),n.attrs.length≤1000000:=(Bb _).1 (dK (fun n h _=>h.2.1) _ sc.att)
 have b1:=sa.wt
 have b2:=sc.wt
 clear sa sc
 generalize dP allows12 (bK p) (cR l)=c at *
 generalize bK p=g at *
 generalize cR l=a at *
 generalize dQ a=A at *
 generalize dQ c=C at *
 generalize aN a=wa' at *
 generalize aN c=wc' at *
 simp (disch:=omega) [-zAa]
 refine ay (by simpa using hg) (by simp) fun _=>?_
 simp (disch:=omega) [-zAa]
 refine ay h3 (by simp) fun _=>?_
 simp (disch:=omega) [-zAa]
 refine ay (by simpa using ca) (by simp) fun _=>?_
 simp (disch:=omega) [-zAa]
 refine ah wc rfl fun _=>?_
 simp (disch:=omega) [-zAa]
 refine ah wa rfl fun _=>?_
 simp (disch:=omega) [-zAa]
 refine ah (by simpa using lo) rfl fun _=>?_
 simp (disch:=omega) [-zAa]
 refine ay aa (by simp) fun _=>?_
 simp (disch:=omega) [-zAa]
 refine ay ac (by simp) fun _=>?_
 simp (disch:=omega) [-zAa]
 refine au (fun k:Nat=>⟨[(8,.seq 5 (A.map Node.v)),(9,.seq 5 (C.map Node.v)),(10,.int .i64 k)],[]⟩) (fun k=>k≤C.length) (fun k=>C.length - k) [] _ 0 rfl (by simp) (by simp) ?_
 rintro i hi N hN
 rcases Nat.lt_or_ge i C.length with hlt | hge
 · obtain ⟨m,hm⟩:=bq (l:=C) (k:=i) hlt
   have hmm:=zAb hm
   by_cases hk:m.kind=1
   · simp (disch:=omega) [-zAa,hm,hk]
     obtain ⟨n0,hn0,hn1⟩:=hin m hmm hk
     have hany:A.any (xI m)=true:=zAc.2 ⟨n0,hn0,RX.2 hn1⟩
     refine au (fun q:Nat × Bool=>⟨[(8,.seq 5 (A.map Node.v)),(9,.seq 5 (C.map Node.v)),(10,.int .i64 i),(11,.bool q.2),(12,.int .i64 q.1)],[]⟩) (fun q=>q.1≤A.length∧(q.2 || (A.drop q.1).any (xI m))=true) (fun q=>A.length - q.1) [] _ (0,false) rfl (by simp) (by simp [hany]) ?_
     rintro ⟨j,f⟩ ⟨hj,hg⟩ N2 hN2
     simp only at hj hg
     rcases place A j hj with ⟨he2,hd2⟩ | ⟨hlt2,n,hn,hd2⟩<;>rw [hd2] at hg
     · simp at hg
       subst hg
       simp (disch:=omega) [-zAa,he2]
       exact hN.out _<|Nx.mk (i + 1) (by simp) (by omega) (by omega)
     · rw [List.any_cons] at hg
       have hw:=AG m.attrs n.attrs (tc m hmm) (ta n (zAb hn))
       have next:∀ τ:St,τ.nrm [8,9,10,11,12]=⟨[(8,.seq 5 (A.map Node.v)),(9,.seq 5 (C.map Node.v)),(10,.int .i64 i),(11,.bool (f || xI m n)),(12,.int .i64 ((j + 1:Nat):Int))],[]⟩→N2 τ:=fun τ h=>
        hN2.out _<|Nx.mk (j + 1,f || xI m n) h ⟨by simp only; omega,by simpa [Bool.or_assoc] using hg⟩ (by simp only; omega)
       simp (disch:=omega) [-zAa,hn]
       refine BrK.mk (fun h=>?_) (fun h=>?_)
       · subst h
         simp (disch:=omega) [-zAa]
         exact next _ (by simp)
       · have h:f=false:=by simpa using h
         subst h
         simp only [Bool.false_or] at next
         by_cases hk1:n.kind=1
         · by_cases hnm:n.name=m.name
           · have e:xI m n=gH m.attrs n.attrs:=by simp [xI,hk1,hnm]
             simp (disch:=omega) [-zAa,hn,hm,hk1,hnm]
             refine aI hw rfl ?_
             simp (disch:=omega) [-zAa]
             exact next _ (by rw [e]; simp)
           · have e:xI m n=false:=by simp [xI,hnm]
             simp (disch:=omega) [-zAa,hn,hm,hk1,hnm]
             exact next _ (by rw [e]; simp)
         · have e:xI m n=false:=by simp [xI,hk1]
           simp (disch:=omega) [-zAa,hn,hm,hk1]
           exact next _ (by rw [e]; simp)
   · simp (disch:=omega) [-zAa,hm,hk]
     exact hN.out _<|Nx.mk (i + 1) (by simp) (by omega) (by omega)
 · obtain rfl:i=C.length:=by omega
   simp (disch:=omega) [-zAa]
   refine ah Dd rfl fun _=>?_
   simp (disch:=omega) [-zAa]
end Go.Abs.F
end
