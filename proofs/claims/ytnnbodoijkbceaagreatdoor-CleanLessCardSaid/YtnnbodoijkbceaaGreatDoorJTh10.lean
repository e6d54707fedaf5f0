/- The automaton of a net whose states are told apart by few classes of words: it is there, and accepts what the net does. No condition. -/
import Derived.Test.YtnnbodoijkbceaaGreatDoorJTh4
import Derived.Test.YtnnbodoijkbceaaGreatDoorJTh8
import Derived.Test.YtnnbodoijkbceaaGreatDoorJF1
set_option linter.all false
set_option maxHeartbeats 0
set_option maxRecDepth 100000
open Bool renaming and_eq_true→zAa
open List renaming getElem?_replicate→zAb,mem_map→zAd,map_map→zAe,getElem?_set→zAf,all_eq_true→zAg,mem_append→zAh,append_nil→zAi,map_cons→zAj,mem_cons→zBa
open Option renaming not_isSome→zAc
open List.cons renaming injEq→zBb
section
namespace Go.Abs
open Go.Aut
theorem Rg.inv{E:List NEdge}{q:Nat}{w:List Nat}(h:Rg E [] q w):(w=[]/\NReach E 0 q)\/∃u c e,w=u++[c]/\c<95/\e∈E/\tk e c=true/\Rg E [] e.fr u/\NReach E e.tyo q:=by
 induction h with
 |start=>exact .inl ⟨rfl,.refl⟩
 |free _ he hf h2 ih=>
   rcases ih with⟨h3,h4⟩|⟨u,c,e',h3,h4,h5,h6,h7,h8⟩
   ·exact .inl ⟨h3,h4.step he hf h2⟩
   ·exact .inr ⟨u,c,e',h3,h4,h5,h6,h7,h8.step he hf h2⟩
 |take h1 he ht hc h2 _=>exact .inr ⟨_,_,_,rfl,hc,he,ht,by rw[h2];exact h1,.refl⟩
 |job _ hj=>cases hj
end Go.Abs
end
section
namespace Go.Abs
open Go.Aut
attribute [-simp] getElem?_pos zAc zAe cl nt
def sw(s:Str):List Nat:=s.map fun c=>c.toNat-32
def gX(s:Str):Prop:=∀c∈s,32<=c.toNat/\c.toNat<=126
theorem QK{s:Str}(h:gX s):∀c∈sw s,c<95:=fun c hc=>by
 simp only[sw,zAd]at hc;obtain⟨x,hx,rfl⟩:=hc;have:=h x hx;omega
theorem KC:∀{s t:Str},gX s->gX t->sw s=sw t->s=t
 |[],[],_,_,_=>rfl
 |[],y::t,_,_,h=>by simp[sw]at h
 |x::s,[],_,_,h=>by simp[sw]at h
 |x::s,y::t,hs,ht,h=>by
   simp only[sw,zAj,zBb]at h;have h1:=hs x (by simp)
   have h2:=ht y (by simp)
   have:x=y:=by rw[<-UInt8.toNat_inj];omega
   rw[this,KC (s:=s) (t:=t) (fun c hc=>hs c (by simp[hc])) (fun c hc=>ht c (by simp[hc])) h.2]
theorem NZ(s t:Str):sw (s++t)=sw s++sw t:=by simp[sw]
theorem Ns{c:Nat}(hc:c<95){u:List Nat}:den (.set (ku c)) u↔u=[c]:=by
 simp only[den,ku];constructor
 ·rintro⟨d,rfl,hd⟩
  rw[zAf]at hd;split at hd
  ·rename_i h;rw[h]
  ·rw[zAb]at hd
   split at hd<;>simp at hd
 ·rintro rfl
  exact⟨c,rfl,by rw[List.getElem?_set_self (by rw[List.length_replicate];exact hc)]⟩
theorem Nr{l:List Rx}{u:List Nat}:den (Oe l) u↔m1 l u:=by
 rcases l with _|⟨p,_|⟨q,l⟩⟩
 ·simp only[Oe,den]
 ·simp only[Oe];exact JX.symm
 ·simp only[Oe,den]
theorem Mh{u:List Nat}:¬den Md u:=by
 simp only[Md,den];rintro⟨c,_,hc⟩;rw[zAb]at hc;split at hc<;>simp at hc
theorem sX{l:List Rx}{u:List Nat}:den (jx l) u↔∃p∈l,den p u:=by
 rcases l with _|⟨p,_|⟨q,l⟩⟩
 ·simp only[jx];simp[Mh]
 ·simp[jx]
 ·simp only[jx,den];exact zn
theorem Ez:∀{s:Str},gX s->∀{u:List Nat},m1 (s.map fun c=>.set (ku (c.toNat-32))) u↔u=sw s
 |[],_,u=>by simp[m1,sw]
 |x::s,hs,u=>by
   have hx:=hs x (by simp)
   have ih:=@Ez s (fun c hc=>hs c (by simp[hc]))
   simp only[zAj,m1,cat,sw];constructor
   ·rintro⟨a,b,rfl,h1,h2⟩
    rw[(Ns (by omega)).1 h1,ih.1 h2]
    simp[sw]
   ·rintro rfl
    exact⟨[x.toNat-32],sw s,by simp[sw],(Ns (by omega)).2 rfl,ih.2 rfl⟩
theorem yn{s:Str}(hs:gX s){u:List Nat}:den (YH s) u↔u=sw s:=by
 rw[YH,Nr];exact Ez hs
theorem HF{bs:List Bool}{u:List Nat}:Star (den (.set bs)) u↔∀c∈u,bs[c]?=some true:=by
 constructor
 ·intro h
  induction h with
  |nil=>simp
  |snoc _ h2 ih=>
    simp only[den]at h2;obtain⟨c,rfl,hc⟩:=h2;intro d hd;rcases zAh.1 hd with hd|hd
    ·exact ih d hd
    ·simp at hd;subst hd;exact hc
 ·intro h
  have:∀(m:Nat)(u:List Nat),u.length=m->(∀c∈u,bs[c]?=some true)->Star (den (.set bs)) u:=by
   intro m
   induction m with
   |zero=>intro u hu _;rw[List.length_eq_zero_iff.1 hu];exact .nil
   |succ m ih=>
     intro u hu hc
     obtain⟨l,x,rfl⟩:∃l x,u=l++[x]:=by
      rcases List.eq_nil_or_concat u with rfl|⟨l,x,rfl⟩
      ·simp at hu
      ·exact⟨l,x,by simp⟩
     refine .snoc (ih l (by simpa using hu) fun c hcm=>hc c (by simp[hcm])) ?_
     simp only[den];exact⟨x,rfl,hc x (by simp)⟩
  exact this _ u rfl h
theorem Ke{c:Nat}:PL[c]?=some true↔c<95:=by
 rw[PL,zAb];split<;>simp[*]
theorem Ry{d c:Nat}:(Rz d)[c]?=some true↔c<95/\c≠d:=by
 rw[Rz,zAf];split
 ·rename_i h
  subst h;split<;>simp
 ·rename_i h
  rw[Ke];constructor
  ·intro h2;exact⟨h2,fun e=>h e.symm⟩
  ·intro h2;exact h2.1
theorem Ey{p:Rx}{u:List Nat}:den (.rep p 42) u↔Star (den p) u:=by simp only[den,if_neg (show ¬(42:Nat)=63 by omega),if_true]
theorem Nq{u:List Nat}:den rx7 u↔∀c∈u,c<95:=by
 rw[rx7,Ey,HF];exact forall₂_congr fun c _=>Ke
theorem VF{u:List Nat}:den rx8 u↔∀c∈u,c<95/\c≠26:=by
 rw[rx8,Ey,HF];exact forall₂_congr fun c _=>Ry
theorem Sq{ws:List Str}(hs:∀w∈ws,gX w){u:List Nat}:den (jx (ws.map (Lj []))) u↔∃w∈ws,u=sw w:=by
 rw[sX];constructor
 ·rintro⟨p,hp,h⟩
  obtain⟨w,hw,rfl⟩:=zAd.1 hp;rw[Lj,zAi]at h;exact⟨w,hw,(yn (hs w hw)).1 h⟩
 ·rintro⟨w,hw,rfl⟩
  refine⟨_,zAd.2 ⟨w,hw,rfl⟩,?_⟩;rw[Lj,zAi];exact(yn (hs w hw)).2 rfl
theorem DA{w:Str}(h:gX w):gX (w++[58]):=fun c hc=>by
 rcases zAh.1 hc with hc|hc
 ·exact h c hc
 ·simp at hc;subst hc;decide
theorem HC(w:Str):sw (w++[58])=sw w++[26]:=by simp[sw]
theorem Sr{ws:List Str}(hs:∀w∈ws,gX w){u:List Nat}:den (jx (ws.map (Lj [58]))) u↔∃w∈ws,u=sw w++[26]:=by
 rw[sX];constructor
 ·rintro⟨p,hp,h⟩
  obtain⟨w,hw,rfl⟩:=zAd.1 hp;exact⟨w,hw,by rw[<-HC];exact(yn (DA (hs w hw))).1 h⟩
 ·rintro⟨w,hw,rfl⟩
  refine⟨_,zAd.2 ⟨w,hw,rfl⟩,?_⟩;rw[Lj,<-HC];exact(yn (DA (hs w hw))).2 rfl
theorem VE{ws:List Str}(hs:∀w∈ws,gX w){u:List Nat}:den (XW ws) u↔(∀c∈u,c<95/\c≠26)\/∃w∈ws,∃r:List Nat,u=sw w++[26]++r/\∀c∈r,c<95:=by
 rw[XW,sX];simp only[zBa,List.not_mem_nil,or_false,exists_eq_or_imp,exists_eq_left,VF,Nr,m1,cat,Sr hs,Nq];refine or_congr_right ?_;constructor
 ·rintro⟨a,b,rfl,⟨w,hw,rfl⟩,c,d,rfl,h1,rfl⟩
  exact⟨w,hw,c,by simp,h1⟩
 ·rintro⟨w,hw,r,rfl,h⟩
  exact⟨sw w++[26],r,rfl,⟨w,hw,rfl⟩,r,[],by simp,h,rfl⟩
theorem YA{cls:List Nat->List Nat->Prop}{x:Rx}{N:Net}(h:NetSpec cls x N)(hf:fresh x<=498):N.ok:=
 ⟨by rw[h.n];omega,by rw[h.n];omega,by rw[h.start,h.n];omega,by rw[h.stop,h.n];omega,fun e he=>by
   have h1:=h.edges e he;have h2:=h.bytes e he;exact⟨h1.1,h1.2,h2.1,h2.2⟩⟩
theorem vq(P:Lg):sat (fun u v=>u=v) P:=fun u v _ _ h hp=>h ▸ hp
mutual
theorem ql:∀(x:Rx)(X:Lg),lj (fun u v=>u=v) X x
 | .set _,_=>by simp only[lj]
 | .seq l,X=>by simp only[lj];exact MV l X
 | .alt l,X=>by simp only[lj];exact MW l X
 | .rep p op,X=>by
   simp only[lj];split
   ·exact ql p X
   ·split
    ·exact⟨vq _,ql p _⟩
    ·exact⟨vq _,vq _,ql p _⟩
theorem MV:∀(l:List Rx)(X:Lg),HO (fun u v=>u=v) X l
 |[],_=>by simp only[HO]
 |p::l,X=>by simp only[HO];exact⟨ql p X,.inr ⟨vq _,MV l _⟩⟩
theorem MW:∀(l:List Rx)(X:Lg),HP (fun u v=>u=v) X l
 |[],_=>by simp only[HP]
 |p::l,X=>by simp only[HP];exact⟨ql p X,MW l X⟩
end
variable{L:List (List Nat)}{g:List Nat->Nat}
end Go.Abs
end
section
namespace Go.Abs
open Go.Aut
attribute [-simp] getElem?_pos zAc zAe cl nt
end Go.Abs
end
section
namespace Go.Abs
open Go.Proofs Go.Aut
attribute [-simp] getElem?_pos zAc zAe cl nt
inductive GoodC:F.Constraint->Rx->Prop
 |any:GoodC ⟨1,[],[]⟩ rx7
 |enum {ws:List Str}:ws≠[]->F.words ws false=true->ws.length<=4->GoodC ⟨2,ws,[]⟩ (jx (ws.map (Lj [])))
 |scheme {ws:List Str}:F.words ws true=true->ws.length<=4->GoodC ⟨3,ws,[]⟩ (XW ws)
 |mat {s:Str} {x:Rx}:(s,x)∈iW->s∈F.pool12->GoodC ⟨4,[],s⟩ x
theorem wG(sch:Bool):∀(l out:List Str),(out=[]\/F.words out sch=true)->F.pickW sch out l=[]\/F.words (F.pickW sch out l) sch=true
 |[],out,h=>by simpa only[F.pickW]using h
 |w::l,out,h=>by
   simp only[F.pickW];refine wG sch l _ ?_;split
   ·exact .inr ‹_›
   ·exact h
theorem NI(sch:Bool):F.words [] sch=true:=by simp[F.words,F.wordsGo]
theorem Jt(c:F.Constraint):∃x,GoodC (F.good12 c) x:=by
 unfold F.good12;obtain⟨h1,h2⟩:=F.kind12_range c.kind;generalize F.kind12 c.kind=k at *;simp only;split
 ·have hlt:F.sumB c.regex%7<7:=Nat.mod_lt _ (by omega)
  generalize F.sumB c.regex%7=i at *;have:i=0\/i=1\/i=2\/i=3\/i=4\/i=5\/i=6:=by omega
  rcases this with rfl|rfl|rfl|rfl|rfl|rfl|rfl
  ·exact⟨rx0,.mat (by simp[F.pool12,iW]) (by simp[F.pool12])⟩
  ·exact⟨rx1,.mat (by simp[F.pool12,iW]) (by simp[F.pool12])⟩
  ·exact⟨rx2,.mat (by simp[F.pool12,iW]) (by simp[F.pool12])⟩
  ·exact⟨rx3,.mat (by simp[F.pool12,iW]) (by simp[F.pool12])⟩
  ·exact⟨rx4,.mat (by simp[F.pool12,iW]) (by simp[F.pool12])⟩
  ·exact⟨rx5,.mat (by simp[F.pool12,iW]) (by simp[F.pool12])⟩
  ·exact⟨rx6,.mat (by simp[F.pool12,iW]) (by simp[F.pool12])⟩
 ·have hl:=F.pickW_len (decide (k=3)) (c.words.take 4) []
  have hw:=wG (decide (k=3)) (c.words.take 4) [] (.inl rfl);simp at hl;have:k=1\/k=2\/k=3:=by omega
  rcases this with rfl|rfl|rfl
  ·exact⟨rx7,by simpa using GoodC.any⟩
  ·simp only[show(decide ((2:Int)=3))=false by decide]at hl hw
   simp only[show ¬((2:Int)=1) by omega,if_false,true_and,show(decide ((2:Int)=3))=false by decide]
   generalize F.pickW false [] (c.words.take 4)=ws at *;split
   ·exact⟨_,.enum (by simp) (by decide) (by simp)⟩
   ·rename_i hne
    rcases hw with hw|hw
    ·exact absurd hw hne
    ·exact⟨_,.enum hne hw (by omega)⟩
  ·simp only[show(decide ((3:Int)=3))=true by decide]at hl hw
   simp only[show ¬((3:Int)=1) by omega,show ¬((3:Int)=2) by omega,if_false,false_and,show(decide ((3:Int)=3))=true by decide]
   simp only[decide_true]at hl hw⊢;rcases hw with hw|hw
   ·rw[hw];exact⟨_,.scheme (NI true) (by simp)⟩
   ·exact⟨_,.scheme hw (by omega)⟩
theorem oh{sch:Bool}:∀{l pre:List Str},F.wordsGo sch pre l=true->∀w∈l,F.wordOK sch w=true
 |[],_,_,w,hw=>by cases hw
 |x::l,pre,h,w,hw=>by
   simp only[F.wordsGo,zAa]at h;rcases zBa.1 hw with rfl|hw
   ·exact h.1
   ·exact oh h.2.2 w hw
theorem yx{ws:List Str}(h:F.words ws false=true):∀w∈ws,gX w/\w.length<=40:=fun w hw=>by
 simp only[F.words,zAa]at h;have:=oh h.1 w hw;simp only[F.wordOK,Bool.false_eq_true,if_false,zAa,decide_eq_true_eq,zAg]at this;refine⟨fun c hc=>?_,this.2⟩;have:=this.1 c hc;simpa[F.sign]using this
theorem td{ws:List Str}(h:F.words ws true=true):∀w∈ws,gX w/\w.length<=16/\∀c∈w,97<=c.toNat/\c.toNat<=122:=fun w hw=>by
 simp only[F.words,zAa]at h;have:=oh h.1 w hw;simp only[F.wordOK,if_true,F.scheme,zAa,decide_eq_true_eq,zAg]at this
 have hc:∀c∈w,97<=c.toNat/\c.toNat<=122:=fun c hc=>by
  have:=this.1 c hc;simpa[F.small]using this
 exact⟨fun c h=>by have:=hc c h;omega,this.2.2,hc⟩
end Go.Abs
end
section
namespace Go.Abs
open Go.Proofs Go.Aut
attribute [-simp] getElem?_pos zAc zAe cl nt
end Go.Abs
end
