/- What strainerref09's tables mean: languages of words between two places. No condition. -/
import Derived.Test.YtnnbodoijkbceaaGreatDoorJTh10
import Derived.Test.YtnnbodoijkbceaaGreatDoorJF17
import Derived.Test.YtnnbodoijkbceaaGreatDoorJTh6
set_option linter.all false
set_option maxHeartbeats 0
set_option maxRecDepth 100000
open List renaming take_of_length_le→zAa,getElem?_append_right→zAb,mem_cons→zAc,append_assoc→zAf,getElem?_append_left→zAg,cons_append→zAi,getElem?_eq_none→zBa,reduceReplicate→zBc,map_map→zBf,length_append→zBg,getElem?_take→zBh,mem_cons_self→zBi,nil_append→zBj
open Bool renaming false_or→zAd,and_eq_true→zAh,false_and→zBb,or_false→zBd,true_and→zBe,true_or→zCa
open Option renaming not_isSome→zAe
open List.cons renaming injEq→zAj
open Option.some renaming injEq→zCb
section
namespace Go.Abs
open Go.Aut
attribute [-simp] getElem?_pos zAe zBf cl nt
def seg(u:List Nat)(i k:Nat):List Nat:=(u.take k).drop i
def lJ(u:List Nat)(T:F.Tab)(L:Lg):Prop:=∀i k,i<=u.length->k<=u.length->(T i k=true↔i<=k/\L (seg u i k))
def eps:Lg:=fun w=>w=[]
def non:Lg:=fun _=>False
def alt(A B:Lg):Lg:=fun w=>A w\/B w
theorem qk{u:List Nat}{i k:Nat}(hi:i<=k)(hk:k<=u.length):(seg u i k).length=k-i:=by simp[seg];omega
theorem MU{u:List Nat}{i x k:Nat}(h1:i<=x)(h2:x<=k):seg u i k=seg u i x++seg u x k:=by
 simp only[seg]
 have e:u.take k=u.take x++(u.take k).drop x:=by
  conv=>lhs;rw[<-List.take_append_drop x (u.take k)]
  rw[List.take_take,Nat.min_eq_left h2]
 by_cases hx:x<=u.length
 ·conv=>lhs;rw[e]
  rw[List.drop_append_of_le_length (by simp;omega)]
 ·rw[zAa (l:=u) (i:=k) (by omega),zAa (l:=u) (i:=x) (by omega),List.drop_of_length_le (l:=u) (i:=x) (by omega),List.append_nil]
theorem N8{u a b:List Nat}{i k:Nat}(hi:i<=k)(hk:k<=u.length)(h:seg u i k=a++b):i+a.length<=k/\seg u i (i+a.length)=a/\seg u (i+a.length) k=b:=by
 have hl:=qk hi hk;rw[h,zBg]at hl;have h1:i+a.length<=k:=by omega
 have h2:=MU (u:=u) (Nat.le_add_right i a.length) h1;rw[h]at h2;have h3:=List.append_inj h2 (by rw[qk (by omega) (by omega)];omega)
 exact⟨h1,h3.1.symm,h3.2.symm⟩
theorem D4{u:List Nat}{f g:F.Tab}{A B:Lg}(hf:lJ u f A)(hg:lJ u g B):lJ u (F.both1 f g) (alt A B):=fun i k hi hk=>by
 simp only[F.both1,Bool.or_eq_true,hf i k hi hk,hg i k hi hk,alt,and_or_left]
theorem IF{u:List Nat}{f g:F.Tab}{A B:Lg}(hf:lJ u f A)(hg:lJ u g B):lJ u (F.jon (u.length+1) f g) (cat A B):=fun i k hi hk=>by
 simp only[F.jon,F.jo,List.any_eq_true,List.mem_range,zAh,decide_eq_true_eq,cat];constructor
 ·rintro⟨x,hx,hxk,h1,h2⟩
  obtain⟨g1,g2⟩:=(hf i x hi (by omega)).1 h1
  obtain⟨g3,g4⟩:=(hg x k (by omega) hk).1 h2
  exact⟨by omega,_,_,MU g1 g3,g2,g4⟩
 ·rintro⟨hik,a,b,h,ha,hb⟩
  obtain⟨h1,h2,h3⟩:=N8 hik hk h;exact⟨i+a.length,by omega,h1,(hf _ _ hi (by omega)).2 ⟨by omega,by rw[h2];exact ha⟩,(hg _ _ (by omega) hk).2 ⟨h1,by rw[h3];exact hb⟩⟩
theorem Pz(A B C:Lg):cat (cat A B) C=cat A (cat B C):=by
 funext w;refine propext ⟨?_,?_⟩
 ·rintro⟨_,c,rfl,⟨a,b,rfl,ha,hb⟩,hc⟩
  exact⟨a,b++c,by simp,ha,b,c,rfl,hb,hc⟩
 ·rintro⟨a,_,rfl,ha,b,c,rfl,hb,hc⟩
  exact⟨a++b,c,by simp,⟨a,b,rfl,ha,hb⟩,hc⟩
theorem jF(A:Lg):cat eps A=A:=by
 funext w;refine propext ⟨?_,fun h=>⟨[],w,rfl,rfl,h⟩⟩;rintro⟨a,b,rfl,rfl,h⟩;exact h
theorem EC(A:Lg):cat A eps=A:=by
 funext w;refine propext ⟨?_,fun h=>⟨w,[],by simp,h,rfl⟩⟩
 rintro⟨a,b,rfl,h,rfl⟩;simpa using h
theorem gF(A:Lg):alt non A=A:=by funext w;simp[alt,non]
theorem EH(A:Lg):alt A non=A:=by funext w;simp[alt,non]
theorem PK(A B C:Lg):alt (alt A B) C=alt A (alt B C):=by funext w;simp[alt,or_assoc]
theorem StarApp{L:Lg}{a b:List Nat}(ha:Star L a)(hb:Star L b):Star L (a++b):=by
 induction hb with
 |nil=>simpa using ha
 |snoc _ h ih=>rw[<-zAf];exact .snoc ih h
inductive Pw (L:Lg):Nat->Lg
 |nil:Pw L 0 []
 |cons {j:Nat} {a b:List Nat}:L a->Pw L j b->Pw L (j+1) (a++b)
theorem Pw.snoc{L:Lg}{j:Nat}{a b:List Nat}(h:Pw L j a)(hb:L b):Pw L (j+1) (a++b):=by
 induction h with
 |nil=>simpa using Pw.cons hb .nil
 |cons h1 _ ih=>rw[zAf];exact .cons h1 ih
theorem Pw.star{L:Lg}{j:Nat}{a:List Nat}(h:Pw L j a):Star L a:=by
 induction h with
 |nil=>exact .nil
 |cons h1 _ ih=>exact StarApp (Star.one h1) ih
theorem StarPw{L:Lg}{a:List Nat}(h:Star L a):∃j,j<=a.length/\Pw L j a:=by
 induction h with
 |nil=>exact⟨0,by simp,.nil⟩
 | @snoc u v h1 h2 ih=>
   obtain⟨j,hj,hp⟩:=ih;rcases v with _|⟨x,v⟩
   ·exact⟨j,by simpa using hj,by simpa using hp⟩
   ·exact⟨j+1,by simp;omega,hp.snoc h2⟩
theorem UT(A:Lg):Ot A=cat A (Star A):=by
 funext w;refine propext ⟨?_,?_⟩
 ·rintro⟨a,b,rfl,ha,hb⟩
  obtain⟨j,_,hp⟩:=StarPw ha;have h2:=hp.snoc hb;generalize a++b=w at h2;cases h2 with
  |cons h1 h2=>exact⟨_,_,rfl,h1,h2.star⟩
 ·rintro⟨a,b,rfl,ha,hb⟩
  have h2:Star A (a++b):=StarApp (Star.one ha) hb;obtain⟨j,_,hp⟩:=StarPw hb;clear h2
  induction hb generalizing a with
  |nil=>exact⟨[],a,by simp,.nil,ha⟩
  | @snoc u v h1 h2 ih=>exact⟨a++u,v,by simp,StarApp (Star.one ha) h1,h2⟩
def stN(B:Lg):Nat->Lg->Lg
 |0,A=>A
 |t+1,A=>stN B t (alt A (cat A B))
theorem zo{u:List Nat}{g:F.Tab}{B:Lg}(hg:lJ u g B):∀(t:Nat){f:F.Tab}{A:Lg},lJ u f A->lJ u (F.star (u.length+1) g t f) (stN B t A)
 |0,f,A,h=>h
 |t+1,f,A,h=>zo hg t (D4 h (IF h hg))
theorem MN{B:Lg}:∀(t:Nat){A:Lg}{w:List Nat},stN B t A w->cat A (Star B) w
 |0,A,w,h=>⟨w,[],by simp,h,.nil⟩
 |t+1,A,w,h=>by
   obtain⟨a,b,rfl,ha,hb⟩:=MN t h;rcases ha with ha|⟨a1,a2,rfl,h1,h2⟩
   ·exact⟨a,b,rfl,ha,hb⟩
   ·exact⟨a1,a2++b,by simp,h1,StarApp (Star.one h2) hb⟩
theorem KG{B:Lg}:∀(t:Nat){A:Lg}{j:Nat}{a b:List Nat},j<=t->A a->Pw B j b->stN B t A (a++b)
 |0,A,j,a,b,hj,ha,hb=>by
   obtain rfl:j=0:=by omega
   cases hb;simpa[stN]using ha
 |t+1,A,j,a,b,hj,ha,hb=>by
   cases hb with
   |nil=>exact KG t (A:=alt A (cat A B)) (j:=0) (by omega) (.inl ha) .nil
   | @cons j b1 b2 h1 h2=>
     rw[<-zAf];exact KG t (A:=alt A (cat A B)) (by omega) (.inr ⟨a,b1,rfl,ha,h1⟩) h2
theorem OF{u:List Nat}{f g:F.Tab}{A B:Lg}(hf:lJ u f A)(hg:lJ u g B):lJ u (F.star (u.length+1) g (u.length+1) f) (cat A (Star B)):=fun i k hi hk=>by
 rw[zo hg (u.length+1) hf i k hi hk];refine and_congr_right fun hik=>⟨MN _,?_⟩;rintro⟨a,b,h,ha,hb⟩;have hl:=qk hik hk;rw[h,zBg]at hl;obtain⟨j,hj,hp⟩:=StarPw hb;rw[h];exact KG _ (by omega) ha hp
def nP(p:F.Part):Lg:=if p.op=115 then den (.set p.set)else if p.op=116\/p.op=109 then eps else non
def BX(op:Nat)(A B:Lg):Lg:=if op=111 then alt A B else if op=116 then cat A B else if op=109 then cat A (Star B)else A
def oX(op:Nat)(ls:List Lg):Lg->List Nat->Lg
 |A,[]=>A
 |A,x::l=>oX op ls (BX op A ((ls[x]?).getD non)) l
def gK:List Lg->List F.Part->List Lg
 |acc,[]=>acc
 |acc,p::ps=>gK (acc++[oX p.op acc (nP p) p.l]) ps
def ic(ps:List F.Part)(k:Nat):Lg:=((gK [] (ps.take (k+1)))[k]?).getD non
theorem RH{u:List Nat}{op:Nat}{f g:F.Tab}{A B:Lg}(hf:lJ u f A)(hg:lJ u g B):lJ u (F.kid (u.length+1) op f g) (BX op A B):=by
 unfold F.kid BX;split
 ·exact D4 hf hg
 ·split
  ·exact IF hf hg
  ·split
   ·exact OF hf hg
   ·exact hf
theorem IE{u:List Nat}:lJ u (fun _ _=>false) non:=fun i k _ _=>by simp[non]
def NC(u:List Nat)(tabs:List F.Tab)(ls:List Lg):Prop:=tabs.length=ls.length/\∀x:Nat,lJ u ((tabs[x]?).getD fun _ _=>false) ((ls[x]?).getD non)
theorem D3{u:List Nat}{op:Nat}{tabs:List F.Tab}{ls:List Lg}(h:NC u tabs ls):∀(l:List Nat){f:F.Tab}{A:Lg},lJ u f A->lJ u (F.kidT (u.length+1) op tabs f l) (oX op ls A l)
 |[],f,A,hf=>hf
 |x::l,f,A,hf=>D3 h l (RH hf (h.2 x))
theorem Q1{u:List Nat}{i k:Nat}(hi:i<=u.length)(hk:k<=u.length):(i<=k/\seg u i k=[])↔k=i:=by
 constructor
 ·rintro⟨h,h2⟩
  have:=qk h hk;rw[h2]at this;simp at this;omega
 ·rintro rfl
  exact⟨Nat.le_refl _,by simp[seg]⟩
theorem MT{u:List Nat}{i k c:Nat}(hk:k<=u.length):(i<=k/\seg u i k=[c])↔(k=i+1/\u[i]?=some c):=by
 constructor
 ·rintro⟨h,h2⟩
  have:=qk h hk;rw[h2]at this;simp at this;obtain rfl:k=i+1:=by omega
  refine⟨rfl,?_⟩;have:=congrArg (fun l=>l[0]?) h2;simpa[seg,zBh]using this
 ·rintro⟨rfl,h⟩
  refine⟨by omega,?_⟩
  have hl:=qk (u:=u) (i:=i) (k:=i+1) (by omega) hk
  have h0:(seg u i (i+1))[0]?=some c:=by simpa[seg,zBh]using h
  rcases hs:seg u i (i+1)with _|⟨a,_|⟨b,l⟩⟩
  ·rw[hs]at h0;simp at h0
  ·rw[hs]at h0;simpa using h0
  ·rw[hs]at hl;simp at hl
theorem QZ{c:UInt8}(h:32<=c.toNat/\c.toNat<=126):F.sgn c=true:=by simp[F.sgn,h]
theorem OG{s:Str}(hs:gX s)(p:F.Part):lJ (sw s) (F.base p s) (nP p):=fun i k hi hk=>by
 have hl:(sw s).length=s.length:=by simp[sw]
 have hget:∀i:Nat,(sw s)[i]?=(s[i]?).map fun c=>c.toNat-32:=fun i=>by simp[sw]
 by_cases h115:p.op=115
 ·have n1:¬p.op=116:=by omega
  have n2:¬p.op=109:=by omega
  unfold F.base nP;rw[if_pos h115]
  have hr:(i<=k/\den (.set p.set) (seg (sw s) i k))↔(k=i+1/\∃c,(sw s)[i]?=some c/\p.set[c]?=some true):=by
   simp only[den];constructor
   ·rintro⟨h1,c,h2,h3⟩
    obtain⟨g1,g2⟩:=(MT hk).1 ⟨h1,h2⟩;exact⟨g1,c,g2,h3⟩
   ·rintro⟨h1,c,h2,h3⟩
    obtain⟨g1,g2⟩:=(MT hk).2 ⟨h1,h2⟩;exact⟨g1,c,g2,h3⟩
  rw[hr];rcases hc:s[i]? with _|c
  ·simp[F.sub,n1,n2,hget,hc]
  ·have hcs:=hs c (List.mem_of_getElem? hc)
   simp only[if_pos (show p.op=115/\F.sgn c=true from⟨h115,QZ hcs⟩),F.sub,n1,n2,decide_false,zBd,ite_self,hget,hc,Option.map_some,zCb,exists_eq_left']
   by_cases hk2:k=i+1
   ·subst hk2
    simp only[if_true,true_and];rcases p.set[c.toNat-32]? with _|b<;>simp
   ·simp[hk2]
 ·have e:F.base p s i=F.sub i (decide (p.op=116)||decide (p.op=109)) fun _=>false:=by
   unfold F.base;split
   ·exact if_neg fun h=>h115 h.1
   ·rfl
  rw[nP,if_neg h115];rw[e];by_cases ho:p.op=116\/p.op=109
  ·rw[if_pos ho]
   have hb:(decide (p.op=116)||decide (p.op=109))=true:=by simpa using ho
   rw[hb];simp only[eps];rw[Q1 hi hk];simp[F.sub]
  ·rw[if_neg ho]
   have hb:(decide (p.op=116)||decide (p.op=109))=false:=by simpa using ho
   rw[hb];simp[F.sub,non]
theorem OE{s:Str}(hs:gX s){tabs:List F.Tab}{ls:List Lg}(h:NC (sw s) tabs ls)(p:F.Part):lJ (sw s) (F.stepT p s tabs) (oX p.op ls (nP p) p.l):=by
 have:=D3 (op:=p.op) h p.l (OG hs p);rwa[show(sw s).length=s.length by simp[sw]]at this
theorem D2{s:Str}(hs:gX s):∀(ps:List F.Part){tabs:List F.Tab}{ls:List Lg},NC (sw s) tabs ls->NC (sw s) (F.tabsGo s tabs ps) (gK ls ps)
 |[],tabs,ls,h=>h
 |p::ps,tabs,ls,h=>by
   refine D2 hs ps ⟨by simp[h.1],fun x=>?_⟩
   rcases Nat.lt_trichotomy x tabs.length with hx|hx|hx
   ·rw[zAg hx,zAg (by rw[<-h.1];exact hx)]
    exact h.2 x
   ·rw[zAb (by omega),zAb (by rw[<-h.1];omega),<-h.1,hx]
    simpa using OE hs h p
   ·rw[zBa (by simp;omega),zBa (by simp;rw[<-h.1];omega)]
    exact IE
theorem Le{s:Str}(hs:gX s)(ps:List F.Part)(k:Nat):F.matchT ps k s=true↔ic ps k (sw s):=by
 have h:=(D2 hs (ps.take (k+1)) (tabs:=[]) (ls:=[]) ⟨rfl,fun x=>by simpa using IE⟩).2 k 0 s.length (by simp) (by simp[sw])
 unfold F.matchT ic;rw[h];have e:seg (sw s) 0 s.length=sw s:=by rw[seg,List.drop_zero,zAa (by simp[sw])]
 rw[e];simp
end Go.Abs
end
section
namespace Go.Abs
open Go.Aut
attribute [-simp] getElem?_pos zAe zBf cl nt
theorem VG:den (.seq [])=eps:=by funext w;simp[den,m1,eps]
theorem wZ:m1 []=eps:=by funext w;simp[m1,eps]
theorem uG(p:Rx)(l:List Rx):m1 (p::l)=cat (den p) (m1 l):=by funext w;simp only[m1]
theorem AL(l:List Rx):den (.seq l)=m1 l:=by funext w;simp only[den]
theorem w5:AN []=non:=by funext w;simp only[AN,non]
theorem uH(p:Rx)(l:List Rx):AN (p::l)=alt (den p) (AN l):=by funext w;simp only[AN,alt]
theorem AM(l:List Rx):den (.alt l)=AN l:=by funext w;simp only[den]
theorem wX(p:Rx):den (.rep p 42)=Star (den p):=by
 funext w;simp only[den,if_neg (show ¬(42:Nat)=63 by omega),if_true]
theorem wY(p:Rx):den (.rep p 43)=cat (den p) (Star (den p)):=by
 rw[<-UT];funext w;simp only[den,if_neg (show ¬(43:Nat)=63 by omega),if_neg (show ¬(43:Nat)=42 by omega)]
def ps0:List F.Part:=[⟨115,ku 65,[]⟩,⟨109,[],[0]⟩,⟨116,[],[1]⟩,⟨111,[],[2]⟩]
def ps1:List F.Part:=[⟨115,ku 65,[]⟩,⟨116,[],[0]⟩,⟨115,ku 66,[]⟩,⟨116,[],[2]⟩,⟨111,[],[1,3]⟩,⟨109,[],[4]⟩,⟨116,[],[4,5]⟩,⟨116,[],[6]⟩,⟨111,[],[7]⟩]
def ps2:List F.Part:=[⟨115,digS,[]⟩,⟨109,[],[0]⟩,⟨116,[],[0,1]⟩,⟨116,[],[2]⟩,⟨111,[],[3]⟩]
def ps3:List F.Part:=[⟨115,ku 88,[]⟩,⟨115,PL,[]⟩,⟨115,ku 89,[]⟩,⟨116,[],[0,1,2]⟩,⟨111,[],[3]⟩]
def ps4:List F.Part:=[⟨115,Rz 65,[]⟩,⟨109,[],[0]⟩,⟨116,[],[1]⟩,⟨111,[],[2]⟩]
def ps5:List F.Part:=[⟨116,[],[]⟩,⟨111,[],[0]⟩]
def ps6:List F.Part:=[⟨115,ku 65,[]⟩,⟨116,[],[0]⟩,⟨115,ku 66,[]⟩,⟨115,ku 66,[]⟩,⟨116,[],[2,3]⟩,⟨115,ku 67,[]⟩,⟨116,[],[5]⟩,⟨111,[],[1,4,6]⟩]
theorem U0:F.parseF [97,42]=some (ps0,3):=by kernel_rfl
theorem UZ:F.parseF [40,97,124,98,41,43]=some (ps1,8):=by kernel_rfl
theorem UY:F.parseF [91,48,45,57,93,43]=some (ps2,4):=by kernel_rfl
theorem UX:F.parseF [120,46,121]=some (ps3,4):=by kernel_rfl
theorem UW:F.parseF [91,94,97,93,42]=some (ps4,3):=by kernel_rfl
theorem UV:F.parseF []=some (ps5,1):=by kernel_rfl
theorem UU:F.parseF [97,124,98,98,124,99]=some (ps6,7):=by kernel_rfl
theorem Ys:ic ps0 3=den rx0:=by
 simp[ic,ps0,gK,oX,BX,nP,jF,gF,rx0,wX]
theorem Yr:ic ps1 8=den rx1:=by
 simp[ic,ps1,gK,oX,BX,nP,jF,gF,EH,rx1,wY,AM,uH,w5]
theorem Yq:ic ps2 4=den rx2:=by
 simp[ic,ps2,gK,oX,BX,nP,jF,gF,rx2,wY]
theorem Yp:ic ps3 4=den rx3:=by
 simp[ic,ps3,gK,oX,BX,nP,jF,EC,Pz,gF,rx3,AL,uG,wZ]
theorem Yo:ic ps4 3=den rx4:=by
 simp[ic,ps4,gK,oX,BX,nP,jF,gF,rx4,wX]
theorem Yn:ic ps5 1=den rx5:=by
 simp[ic,ps5,gK,oX,BX,nP,gF,rx5,VG]
theorem Ym:ic ps6 7=den rx6:=by
 simp[ic,ps6,gK,oX,BX,nP,jF,EC,gF,EH,PK,rx6,AM,uH,w5,AL,uG,wZ]
theorem UO{s:Str}{x:Rx}(h:(s,x)∈iW)(hp:s∈F.pool12){v:Str}(hv:gX v):F.rxM s v=true↔den x (sw v):=by
 have go:∀{s:Str}{ps:List F.Part}{k:Nat}{x:Rx},F.parseF s=some (ps,k)->ic ps k=den x->(F.rxM s v=true↔den x (sw v)):=by
  intro s ps k x h1 h2;rw[F.rxM,h1,<-h2];exact Le hv ps k
 simp only[iW,zAc,Prod.mk.injEq,List.not_mem_nil,or_false]at h;rcases h with⟨rfl,rfl⟩|⟨rfl,rfl⟩|⟨rfl,rfl⟩|⟨rfl,rfl⟩|⟨rfl,rfl⟩|⟨rfl,rfl⟩|⟨rfl,rfl⟩|⟨rfl,rfl⟩|⟨rfl,rfl⟩
 ·exact go U0 Ys
 ·exact go UZ Yr
 ·exact go UY Yq
 ·exact go UX Yp
 ·exact go UW Yo
 ·exact go UV Yn
 ·exact go UU Ym
 ·simp[F.pool12]at hp
 ·simp[F.pool12]at hp
theorem Kd{v:Str}:v.all F.sign=true↔gX v:=by
 simp only[List.all_eq_true,F.sign,zAh,decide_eq_true_eq,gX]
theorem zW{s:Str}:∀{l:List Str},F.hasS l s=true↔s∈l
 |[]=>by simp[F.hasS]
 |x::l=>by
   rw[F.hasS,zAc];by_cases h:x=s
   ·simp[h]
   ·rw[if_neg h,zW]
    exact⟨.inr,fun h2=>h2.resolve_left fun e=>h e.symm⟩
theorem Ee(c:UInt8):∀l:Str,((∀x∈l,x≠c)/\Lib.indexByte l c=-1)\/∃a b:Str,l=a++c::b/\(∀x∈a,x≠c)/\Lib.indexByte l c=a.length
 |[]=>.inl ⟨by simp,by simp[Lib.indexByte]⟩
 |y::l=>by
   by_cases h:y=c
   ·exact .inr ⟨[],l,by simp[h],by simp,by simp[Lib.indexByte,h]⟩
   ·rcases Ee c l with⟨h1,h2⟩|⟨a,b,rfl,h1,h2⟩
    ·refine .inl ⟨fun x hx=>?_,by simp[Lib.indexByte,h,h2]⟩
     rcases zAc.1 hx with rfl|hx
     ·exact h
     ·exact h1 x hx
    ·refine .inr ⟨y::a,b,by simp,fun x hx=>?_,?_⟩
     ·rcases zAc.1 hx with rfl|hx
      ·exact h
      ·exact h1 x hx
     ·have:¬((a.length:Int)=-1):=by omega
      simp[Lib.indexByte,h,h2,this]
theorem Pu(v:Str):((∀c∈v,c≠58)/\(F.cutB v 58).2.2=false)\/∃a b:Str,v=a++58::b/\(∀c∈a,c≠58)/\(F.cutB v 58).2.2=true/\(F.cutB v 58).1=a:=by
 rcases Ee 58 v with⟨h1,h2⟩|⟨a,b,e,h1,h2⟩
 ·exact .inl ⟨h1,by rw[F.cutB,h2];rfl⟩
 ·have h:0<=Lib.indexByte v 58:=by omega
  refine .inr ⟨a,b,e,h1,by rw[F.cutB,if_pos h],?_⟩
  rw[F.cutB,if_pos h,h2,e];simp
theorem JE{x:Nat}:∀{a b c d:List Nat},a++x::b=c++x::d->x ∉ a->x ∉ c->a=c
 |[],b,[],d,h,ha,hc=>rfl
 |[],b,y::c,d,h,ha,hc=>by
   simp only[zBj,zAi,zAj]at h;exact absurd (h.1 ▸ zBi) hc
 |y::a,b,[],d,h,ha,hc=>by
   simp only[zBj,zAi,zAj]at h;exact absurd (h.1 ▸ zBi) ha
 |y::a,b,z::c,d,h,ha,hc=>by
   simp only[zAi,zAj]at h;rw[h.1,JE h.2 (fun m=>ha (by simp[m])) (fun m=>hc (by simp[m]))]
theorem QJ{a:Str}(h:∀c∈a,c≠58)(hs:gX a):26 ∉ sw a:=fun hm=>by
 simp only[sw,List.mem_map]at hm;obtain⟨c,hc,he⟩:=hm;refine h c hc ?_;have:=hs c hc;rw[<-UInt8.toNat_inj]
 show c.toNat=58
 omega
theorem G5{c:F.Constraint}{x:Rx}(h:GoodC c x)(v:Str):F.allows12 c v=true↔gX v/\den x (sw v):=by
 unfold F.allows12;rw[zAh,Kd];refine and_congr_right fun hv=>?_;cases h with
 |any=>
   have:=Nq (u:=sw v);simp only[decide_true,zCa,this,true_iff];exact QK hv
 | @enum ws h1 h2 h3=>
   rw[Sq fun w hw=>(yx h2 w hw).1];simp only[show ¬((2:Int)=1) by omega,show ¬((2:Int)=3) by omega,show ¬((2:Int)=4) by omega,decide_false,decide_true,zAd,zBe,zBb,zBd,zW]
   constructor
   ·intro hm;exact⟨v,hm,rfl⟩
   ·rintro⟨w,hw,e⟩
    rw[KC hv (yx h2 w hw).1 e];exact hw
 | @scheme ws h2 h3=>
   rw[VE fun w hw=>(td h2 w hw).1];simp only[show ¬((3:Int)=1) by omega,show ¬((3:Int)=2) by omega,show ¬((3:Int)=4) by omega,decide_false,decide_true,zAd,zBe,zBb,zBd]
   rcases Pu v with⟨h,hf⟩|⟨a,b,rfl,ha,hf,hc⟩
   ·rw[hf]
    simp only[Bool.not_false,zCa,true_iff];refine .inl fun c hc=>⟨QK hv c hc,fun e=>QJ h hv (e ▸ hc)⟩
   ·rw[hf,hc]
    have hsa:gX a:=fun c hc=>hv c (by simp[hc])
    have hsb:gX b:=fun c hc=>hv c (by simp[hc])
    have e:sw (a++58::b)=sw a++26::sw b:=by rw[NZ];rfl
    simp only[Bool.not_true,zAd,zW,e];constructor
    ·intro hm
     exact .inr ⟨a,hm,sw b,by simp,QK hsb⟩
    ·rintro(h|⟨w,hw,r,he,_⟩)
     ·exact absurd rfl (h 26 (by simp)).2
     ·obtain⟨k1,_,k3⟩:=td h2 w hw
      have:=JE (a:=sw a) (b:=sw b) (c:=sw w) (d:=r) (by simpa using he) (QJ ha hsa) (QJ (fun c hc e=>by have:=k3 c hc;rw[e]at this;simp at this) k1)
      rw[KC hsa k1 this];exact hw
 |mat h1 h2=>
   simp only[show ¬((4:Int)=1) by omega,show ¬((4:Int)=2) by omega,show ¬((4:Int)=3) by omega,decide_false,decide_true,zAd,zBe,zBb]
   exact UO h1 h2 hv
end Go.Abs
end
section
namespace Go.Abs
open Go.Proofs Go.Aut
attribute [-simp] getElem?_pos zAe zBf
theorem AH(c:F.Constraint)(v:Str)(hk:c.kind≠4):Fn Tryz.prog bv [c.v,.str v] (.bool (F.allowsL c v)):=by
 refine yoB ro fun ho=>?_;simp only[oks,ok,and_true]at ho;obtain⟨kd,ws,rx⟩:=c;simp only at hk;simp(disch:=omega) [-zBc];refine ah (F.f_lang_isValue _) rfl fun _=>?_;simp(disch:=omega) [-zBc,F.allowsL]
 repeat' (first
  |(refine BrKd.mk (fun h=>?_) (fun h=>?_)<;>simp(disch:=omega) [*])
  |(refine BrK.mk (fun h=>?_) (fun h=>?_)<;>simp(disch:=omega) [*])
  |(refine ah (F.f_slices_Contains_string ws _) rfl (fun _=>?_)<;>simp(disch:=omega) [*])
  |(refine ah (by simpa using F.f_strings_Cut1 v 58) rfl (fun _=>?_)<;>simp(disch:=omega) [*]))
end Go.Abs
end
