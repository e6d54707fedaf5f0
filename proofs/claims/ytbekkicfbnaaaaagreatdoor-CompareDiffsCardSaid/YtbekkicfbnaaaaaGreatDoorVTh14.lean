/- What strainerref09's tables mean: languages of words between two places. No condition. -/
import Derived.Test.YtbekkicfbnaaaaaGreatDoorVTh10
import Derived.Test.YtbekkicfbnaaaaaGreatDoorVF17
import Derived.Test.YtbekkicfbnaaaaaGreatDoorVTh6
set_option linter.all false open List renaming take_of_length_le→zAa,getElem?_append_right→zAb,mem_cons→zAc,append_assoc→zAf,getElem?_append_left→zAg,cons_append→zAi,getElem?_eq_none→zBa,reduceReplicate→zBc,map_map→zBf,length_append→zBg,getElem?_take→zBh,mem_cons_self→zBi,nil_append→zBj
open Bool renaming false_or→zAd,and_eq_true→zAh,false_and→zBb,or_false→zBd,true_and→zBe,true_or→zCa
open Option renaming not_isSome→zAe
open List.cons renaming injEq→zAj
open Option.some renaming injEq→zCb
section
namespace Go.Abs
open Go.Aut
attribute [-simp] getElem?_pos zAe zBf cl nt
def seg(u:List Nat)(i k:Nat):List Nat:=(u.take k).drop i
def rq(u:List Nat)(T:F.Tab)(L:Lg):Prop:=∀i k,i<=u.length->k<=u.length->(T i k=true↔i<=k/\L (seg u i k))
def eps:Lg:=λw=>w=[]
def non:Lg:=λ_=>False
def alt(A B:Lg):Lg:=λw=>A w\/B w
theorem x6{u i k}(hi:i<=k)(hk:k<=u.length):(seg u i k).length=k-i:=by simp[seg];omega
theorem aaz{u i x k}(h1:i<=x)(h2:x<=k):seg u i k=seg u i x++seg u x k:=by
 grind[seg,List.take_append_drop,Nat.min_eq_left,zAa,List.drop_of_length_le]
theorem abQ{u a b i k}(hi:i<=k)(hk:k<=u.length)(h:seg u i k=a++b):i+a.length<=k/\seg u i (i+a.length)=a/\seg u (i+a.length) k=b:=by
 have hl:=x6 hi hk;rw[h,zBg]at hl;have h1:i+a.length<=k:=by omega
 have h2:=aaz (u:=u) (Nat.le_add_right i a.length) h1;grind[List.append_inj,x6]
theorem PX{u f g A B}(hf:rq u f A)(hg:rq u g B):rq u (F.both1 f g) (alt A B):=λi k hi hk=>by
 simp only[F.both1,Bool.or_eq_true,hf i k hi hk,hg i k hi hk,alt,and_or_left]
theorem VD{u f g A B}(hf:rq u f A)(hg:rq u g B):rq u (F.jon (u.length+1) f g) (cat A B):=λi k hi hk=>by
 simp only[F.jon,F.jo,List.any_eq_true,List.mem_range,zAh,decide_eq_true_eq,cat];constructor
 ·rintro⟨x,hx,hxk,h1,h2⟩
  obtain⟨g1,g2⟩:=(hf i x hi (by omega)).1 h1
  obtain⟨g3,g4⟩:=(hg x k (by omega) hk).1 h2
  grind[aaz]
 ·rintro⟨hik,a,b,h,ha,hb⟩
  obtain⟨h1,h2,h3⟩:=abQ hik hk h;exact⟨i+a.length,by omega,h1,(hf _ _ hi (by omega)).2 ⟨by omega,by rw[h2];exact ha⟩,(hg _ _ (by omega) hk).2 ⟨h1,by rw[h3];exact hb⟩⟩
theorem adl(A B C):cat (cat A B) C=cat A (cat B C):=by
 funext w;refine propext ⟨?_,?_⟩
 ·rintro⟨_,c,rfl,⟨a,b,rfl,ha,hb⟩,hc⟩
  exact⟨a,b++c,by simp,ha,b,c,rfl,hb,hc⟩
 ·rintro⟨a,_,rfl,ha,b,c,rfl,hb,hc⟩
  exact⟨a++b,c,by simp,⟨a,b,rfl,ha,hb⟩,hc⟩
theorem oe(A):cat eps A=A:=by
 funext w;refine propext ⟨?_,λh=>⟨[],w,rfl,rfl,h⟩⟩;rintro⟨a,b,rfl,rfl,h⟩;exact h
theorem QE(A):cat A eps=A:=by
 funext w;refine propext ⟨?_,λh=>⟨w,[],by simp,h,rfl⟩⟩
 rintro⟨a,b,rfl,h,rfl⟩;simpa using h
theorem li(A):alt non A=A:=by grind[alt,non]
theorem QK(A):alt A non=A:=by grind[alt,non]
theorem adv(A B C):alt (alt A B) C=alt A (alt B C):=by funext w;simp[alt,or_assoc]
theorem StarApp{L:Lg}{a b:List Nat}(ha:Star L a)(hb:Star L b):Star L (a++b):=by
 induction hb with
 |nil=>simpa using ha
 |snoc _ h ih=>rw[<-zAf];exact .snoc ih h
inductive Pw (L:Lg):Nat->Lg
 |nil:Pw L 0 []
 |cons {j:Nat} {a b:List Nat}:L a->Pw L j b->Pw L (j+1) (a++b)
theorem Pw.snoc{L j a b}(h:Pw L j a)(hb:L b):Pw L (j+1) (a++b):=by
 induction h with
 |nil=>simpa using Pw.cons hb .nil
 |cons h1 _ ih=>rw[zAf];exact .cons h1 ih
theorem Pw.star{L j a}(h:Pw L j a):Star L a:=by
 induction h with
 |nil=>exact .nil
 |cons h1 _ ih=>exact StarApp (Star.one h1) ih
theorem StarPw{L:Lg}{a:List Nat}(h:Star L a):∃j,j<=a.length/\Pw L j a:=by
 induction h with
 |nil=>exact⟨0,by simp,.nil⟩
 | @snoc u v h1 h2 ih=>
   obtain⟨j,hj,hp⟩:=ih;rcases v with _|⟨x,v⟩
   ·grind
   ·exact⟨j+1,by simp;omega,hp.snoc h2⟩
theorem ah7(A):ab4 A=cat A (Star A):=by
 funext w;refine propext ⟨?_,?_⟩
 ·rintro⟨a,b,rfl,ha,hb⟩
  obtain⟨j,_,hp⟩:=StarPw ha;have h2:=hp.snoc hb;generalize a++b=w at h2;cases h2 with
  |cons h1 h2=>exact⟨_,_,rfl,h1,h2.star⟩
 ·rintro⟨a,b,rfl,ha,hb⟩
  have h2:Star A (a++b):=StarApp (Star.one ha) hb;obtain⟨j,_,hp⟩:=StarPw hb;clear h2
  induction hb generalizing a with
  |nil=>exact⟨[],a,by simp,.nil,ha⟩
  | @snoc u v h1 h2 ih=>exact⟨a++u,v,by simp,StarApp (Star.one ha) h1,h2⟩
def stN(B:Lg):Nat->Lg->Lg
 |0,A=>A
 |t+1,A=>stN B t (alt A (cat A B))
theorem JK{u g B}(hg:rq u g B):∀(t:Nat){f:F.Tab}{A:Lg},rq u f A->rq u (F.star (u.length+1) g t f) (stN B t A)
 |0,f,A,h=>h
 |t+1,f,A,h=>JK hg t (PX h (VD h hg))
theorem aas{B}:∀(t:Nat){A:Lg}{w:List Nat},stN B t A w->cat A (Star B) w
 |0,A,w,h=>⟨w,[],by simp,h,.nil⟩
 |t+1,A,w,h=>by
   obtain⟨a,b,rfl,ha,hb⟩:=aas t h;rcases ha with ha|⟨a1,a2,rfl,h1,h2⟩
   ·exact⟨a,b,rfl,ha,hb⟩
   ·exact⟨a1,a2++b,by simp,h1,StarApp (Star.one h2) hb⟩
theorem XU{B}:∀(t:Nat){A:Lg}{j:Nat}{a b:List Nat},j<=t->A a->Pw B j b->stN B t A (a++b)
 |0,A,j,a,b,hj,ha,hb=>by
   obtain rfl:j=0:=by omega
   cases hb;simpa[stN]using ha
 |t+1,A,j,a,b,hj,ha,hb=>by
   cases hb with
   |nil=>exact XU t (A:=alt A (cat A B)) (j:=0) (by omega) (.inl ha) .nil
   | @cons j b1 b2 h1 h2=>
     rw[<-zAf];exact XU t (A:=alt A (cat A B)) (by omega) (.inr ⟨a,b1,rfl,ha,h1⟩) h2
theorem acl{u f g A B}(hf:rq u f A)(hg:rq u g B):rq u (F.star (u.length+1) g (u.length+1) f) (cat A (Star B)):=λi k hi hk=>by
 rw[JK hg (u.length+1) hf i k hi hk];refine and_congr_right λhik=>⟨aas _,?_⟩;rintro⟨a,b,h,ha,hb⟩;have hl:=x6 hik hk;rw[h,zBg]at hl;obtain⟨j,hj,hp⟩:=StarPw hb;rw[h];exact XU _ (by omega) ha hp
def uS(p:F.Part):Lg:=if p.op=115 then den (.set p.set)else if p.op=116\/p.op=109 then eps else non
def MS(op:Nat)(A B:Lg):Lg:=if op=111 then alt A B else if op=116 then cat A B else if op=109 then cat A (Star B)else A
def wj(op:Nat)(ls:List Lg):Lg->List Nat->Lg
 |A,[]=>A
 |A,x::l=>wj op ls (MS op A ((ls[x]?).getD non)) l
def ly:List Lg->List F.Part->List Lg
 |acc,[]=>acc
 |acc,p::ps=>ly (acc++[wj p.op acc (uS p) p.l]) ps
def lO(ps:List F.Part)(k:Nat):Lg:=((ly [] (ps.take (k+1)))[k]?).getD non
theorem afo{u op f g A B}(hf:rq u f A)(hg:rq u g B):rq u (F.kid (u.length+1) op f g) (MS op A B):=by
 grind[F.kid,MS,PX,VD,acl]
theorem VC{u:List Nat}:rq u (λ_ _=>false) non:=λi k _ _=>by simp[non]
def abn(u:List Nat)(tabs:List F.Tab)(ls:List Lg):Prop:=tabs.length=ls.length/\∀x:Nat,rq u ((tabs[x]?).getD λ_ _=>false) ((ls[x]?).getD non)
theorem PW{u op tabs ls}(h:abn u tabs ls):∀(l:List Nat){f:F.Tab}{A:Lg},rq u f A->rq u (F.kidT (u.length+1) op tabs f l) (wj op ls A l)
 |[],f,A,hf=>hf
 |x::l,f,A,hf=>PW h l (afo hf (h.2 x))
theorem aeE{u i k}(hi:i<=u.length)(hk:k<=u.length):(i<=k/\seg u i k=[])↔k=i:=by
 constructor
 ·grind[x6]
 simp_all[Nat.le_refl,seg]
theorem aay{u i k c}(hk:k<=u.length):(i<=k/\seg u i k=[c])↔(k=i+1/\u[i]?=some c):=by
 constructor
 ·rintro⟨h,h2⟩
  have:=x6 h hk;rw[h2]at this;simp at this;obtain rfl:k=i+1:=by omega
  refine⟨rfl,?_⟩;have:=congrArg (λl=>l[0]?) h2;grind[seg]
 ·rintro⟨rfl,h⟩
  refine⟨by omega,?_⟩
  have hl:=x6 (u:=u) (i:=i) (k:=i+1) (by omega) hk
  have h0:(seg u i (i+1))[0]?=some c:=by grind[seg]
  rcases hs:seg u i (i+1)with _|⟨a,_|⟨b,l⟩⟩
  ·simp_all
  ·simp_all
  simp_all
theorem aeD{c}(h:32<=c.toNat/\c.toNat<=126):F.sgn c=true:=by simp[F.sgn,h]
theorem acm{s}(hs:ep s)(p):rq (sw s) (F.base p s) (uS p):=λi k hi hk=>by
 have hl:(sw s).length=s.length:=by simp[sw]
 have hget:∀i:Nat,(sw s)[i]?=(s[i]?).map λc=>c.toNat-32:=λi=>by simp[sw]
 by_cases h115:p.op=115
 ·have n1:¬p.op=116:=by omega
  have n2:¬p.op=109:=by omega
  unfold F.base uS;rw[if_pos h115]
  have hr:(i<=k/\den (.set p.set) (seg (sw s) i k))↔(k=i+1/\∃c,(sw s)[i]?=some c/\p.set[c]?=some true):=by
   grind[den,aay]
  rw[hr];rcases hc:s[i]? with _|c
  ·grind[F.sub]
  ·have hcs:=hs c (List.mem_of_getElem? hc)
   simp only[if_pos (show p.op=115/\F.sgn c=true from⟨h115,aeD hcs⟩),F.sub,n1,n2,decide_false,zBd,ite_self,hget,hc,Option.map_some,zCb,exists_eq_left']
   grind
 ·have e:F.base p s i=F.sub i (decide (p.op=116)||decide (p.op=109)) λ_=>false:=by
   unfold F.base;grind
  rw[uS,if_neg h115];rw[e];by_cases ho:p.op=116\/p.op=109
  ·rw[if_pos ho]
   have hb:(decide (p.op=116)||decide (p.op=109))=true:=by simpa using ho
   simp_all[eps,aeE,F.sub]
  ·rw[if_neg ho]
   grind[decide,F.sub,non]
theorem ack{s}(hs:ep s){tabs ls}(h:abn (sw s) tabs ls)(p):rq (sw s) (F.stepT p s tabs) (wj p.op ls (uS p) p.l):=by
 have:=PW (op:=p.op) h p.l (acm hs p);rwa[show(sw s).length=s.length by simp[sw]]at this
theorem PV{s}(hs:ep s):∀(ps:List F.Part){tabs:List F.Tab}{ls:List Lg},abn (sw s) tabs ls->abn (sw s) (F.tabsGo s tabs ps) (ly ls ps)
 |[],tabs,ls,h=>h
 |p::ps,tabs,ls,h=>by
   refine PV hs ps ⟨by simp[h.1],λx=>?_⟩
   rcases Nat.lt_trichotomy x tabs.length with hx|hx|hx
   ·rw[zAg hx,zAg (by rw[<-h.1];exact hx)]
    exact h.2 x
   ·rw[zAb (by omega),zAb (by rw[<-h.1];omega),<-h.1,hx]
    simpa using ack hs h p
   ·rw[zBa (by simp;omega),zBa (by simp;rw[<-h.1];omega)]
    exact VC
theorem YD{s}(hs:ep s)(ps)(k):F.matchT ps k s=true↔lO ps k (sw s):=by
 have h:=(PV hs (ps.take (k+1)) (tabs:=[]) (ls:=[]) ⟨rfl,λx=>by simpa using VC⟩).2 k 0 s.length (by simp) (by simp[sw])
 simp_all[F.matchT,lO,seg,sw,List.drop_zero,zAa]
end Go.Abs
end
section
set_option maxHeartbeats 1000000
set_option maxRecDepth 100000
namespace Go.Abs
open Go.Aut
attribute [-simp] getElem?_pos zAe zBf cl nt
theorem aiS:den (.seq [])=eps:=by grind[den,tH,eps]
theorem GF:tH []=eps:=by grind[tH,eps]
theorem Dn(p)(l):tH (p::l)=cat (den p) (tH l):=by grind[tH]
theorem Lq(l):den (.seq l)=tH l:=by grind[den]
theorem GG:Ls []=non:=by grind[Ls,non]
theorem Do(p)(l):Ls (p::l)=alt (den p) (Ls l):=by grind[Ls,alt]
theorem Lr(l):den (.alt l)=Ls l:=by grind[den]
theorem GD(p):den (.rep p 42)=Star (den p):=by
 simp_all[den,if_neg,if_true]
theorem GE(p):den (.rep p 43)=cat (den p) (Star (den p)):=by
 simp_all[ah7,den,if_neg]
def ps0:List F.Part:=[⟨115,ew 65,[]⟩,⟨109,[],[0]⟩,⟨116,[],[1]⟩,⟨111,[],[2]⟩]
def ps1:List F.Part:=[⟨115,ew 65,[]⟩,⟨116,[],[0]⟩,⟨115,ew 66,[]⟩,⟨116,[],[2]⟩,⟨111,[],[1,3]⟩,⟨109,[],[4]⟩,⟨116,[],[4,5]⟩,⟨116,[],[6]⟩,⟨111,[],[7]⟩]
def ps2:List F.Part:=[⟨115,digS,[]⟩,⟨109,[],[0]⟩,⟨116,[],[0,1]⟩,⟨116,[],[2]⟩,⟨111,[],[3]⟩]
def ps3:List F.Part:=[⟨115,ew 88,[]⟩,⟨115,adw,[]⟩,⟨115,ew 89,[]⟩,⟨116,[],[0,1,2]⟩,⟨111,[],[3]⟩]
def ps4:List F.Part:=[⟨115,aff 65,[]⟩,⟨109,[],[0]⟩,⟨116,[],[1]⟩,⟨111,[],[2]⟩]
def ps5:List F.Part:=[⟨116,[],[]⟩,⟨111,[],[0]⟩]
def ps6:List F.Part:=[⟨115,ew 65,[]⟩,⟨116,[],[0]⟩,⟨115,ew 66,[]⟩,⟨115,ew 66,[]⟩,⟨116,[],[2,3]⟩,⟨115,ew 67,[]⟩,⟨116,[],[5]⟩,⟨111,[],[1,4,6]⟩]
theorem aie:F.parseF [97,42]=some (ps0,3):=by kernel_rfl
theorem aid:F.parseF [40,97,124,98,41,43]=some (ps1,8):=by kernel_rfl
theorem aic:F.parseF [91,48,45,57,93,43]=some (ps2,4):=by kernel_rfl
theorem aib:F.parseF [120,46,121]=some (ps3,4):=by kernel_rfl
theorem aia:F.parseF [91,94,97,93,42]=some (ps4,3):=by kernel_rfl
theorem ah9:F.parseF []=some (ps5,1):=by kernel_rfl
theorem ah8:F.parseF [97,124,98,98,124,99]=some (ps6,7):=by kernel_rfl
theorem akM:lO ps0 3=den rx0:=by
 simp[lO,ps0,ly,wj,MS,uS,oe,li,rx0,GD]
theorem akL:lO ps1 8=den rx1:=by
 simp[lO,ps1,ly,wj,MS,uS,oe,li,QK,rx1,GE,Lr,Do,GG]
theorem akK:lO ps2 4=den rx2:=by
 simp[lO,ps2,ly,wj,MS,uS,oe,li,rx2,GE]
theorem akJ:lO ps3 4=den rx3:=by
 simp[lO,ps3,ly,wj,MS,uS,oe,QE,adl,li,rx3,Lq,Dn,GF]
theorem akI:lO ps4 3=den rx4:=by
 simp[lO,ps4,ly,wj,MS,uS,oe,li,rx4,GD]
theorem akH:lO ps5 1=den rx5:=by
 simp[lO,ps5,ly,wj,MS,uS,li,rx5,aiS]
theorem akG:lO ps6 7=den rx6:=by
 simp[lO,ps6,ly,wj,MS,uS,oe,QE,li,QK,adv,rx6,Lr,Do,GG,Lq,Dn,GF]
theorem ah3{s x}(h:(s,x)∈er)(hp:s∈F.pool12){v}(hv:ep v):F.rxM s v=true↔den x (sw v):=by
 have go:∀{s:Str}{ps:List F.Part}{k:Nat}{x:Rx},F.parseF s=some (ps,k)->lO ps k=den x->(F.rxM s v=true↔den x (sw v)):=by
  simp_all[F.rxM,YD]
 simp only[er,zAc,Prod.mk.injEq,List.not_mem_nil,or_false]at h;rcases h with⟨rfl,rfl⟩|⟨rfl,rfl⟩|⟨rfl,rfl⟩|⟨rfl,rfl⟩|⟨rfl,rfl⟩|⟨rfl,rfl⟩|⟨rfl,rfl⟩|⟨rfl,rfl⟩|⟨rfl,rfl⟩
 ·exact go aie akM
 ·exact go aid akL
 ·exact go aic akK
 ·exact go aib akJ
 ·exact go aia akI
 ·exact go ah9 akH
 ·exact go ah8 akG
 ·simp[F.pool12]at hp
 simp_all[F.pool12]
theorem Xu{v}:v.all F.sign=true↔ep v:=by
 simp only[List.all_eq_true,F.sign,zAh,decide_eq_true_eq,ep]
theorem Km{s:Str}:∀{l:List Str},F.hasS l s=true↔s∈l
 |[]=>by simp[F.hasS]
 |x::l=>by
   rw[F.hasS,zAc];by_cases h:x=s
   ·simp[h]
   ·rw[if_neg h,Km]
    grind
theorem Qj(c):∀l:Str,((∀x∈l,x≠c)/\Lib.indexByte l c=-1)\/∃a b:Str,l=a++c::b/\(∀x∈a,x≠c)/\Lib.indexByte l c=a.length
 |[]=>.inl ⟨by simp,by simp[Lib.indexByte]⟩
 |y::l=>by
   by_cases h:y=c
   ·exact .inr ⟨[],l,by simp[h],by simp,by simp[Lib.indexByte,h]⟩
   ·rcases Qj c l with⟨h1,h2⟩|⟨a,b,rfl,h1,h2⟩
    ·simp_all[Lib.indexByte,zAc]
    ·refine .inr ⟨y::a,b,by simp,λx hx=>?_,?_⟩
     ·grind
     grind[Lib.indexByte]
theorem adg(v:Str):((∀c∈v,c≠58)/\(F.cutB v 58).2.2=false)\/∃a b:Str,v=a++58::b/\(∀c∈a,c≠58)/\(F.cutB v 58).2.2=true/\(F.cutB v 58).1=a:=by
 rcases Qj 58 v with⟨h1,h2⟩|⟨a,b,e,h1,h2⟩
 ·grind[F.cutB]
 simp_all[Lib.indexByte,F.cutB,if_pos]
theorem WI{x}:∀{a b c d:List Nat},a++x::b=c++x::d->x ∉ a->x ∉ c->a=c
 |[],b,[],d,h,ha,hc=>rfl
 |[],b,y::c,d,h,ha,hc=>by
   simp_all
 |y::a,b,[],d,h,ha,hc=>by
   simp_all
 |y::a,b,z::c,d,h,ha,hc=>by
   simp only[zAi,zAj]at h;rw[h.1,WI h.2 (λm=>ha (by simp[m])) (λm=>hc (by simp[m]))]
theorem aet{a}(h:∀c∈a,c≠58)(hs:ep a):26 ∉ sw a:=λhm=>by
 simp only[sw,List.mem_map]at hm;obtain⟨c,hc,he⟩:=hm;refine h c hc ?_;have:=hs c hc;rw[<-UInt8.toNat_inj]
 grind
theorem tS{c x}(h:GoodC c x)(v:Str):F.allows12 c v=true↔ep v/\den x (sw v):=by
 unfold F.allows12;rw[zAh,Xu];refine and_congr_right λhv=>?_;cases h with
 |any=>
   have:=abb (u:=sw v);simp only[decide_true,zCa,this,true_iff];exact pT hv
 | @enum ws h1 h2 h3=>
   rw[Xd λw hw=>(oh h2 w hw).1];simp only[show ¬((2:Int)=1) by omega,show ¬((2:Int)=3) by omega,show ¬((2:Int)=4) by omega,decide_false,decide_true,zAd,zBe,zBb,zBd,Km]
   constructor
   ·grind
   ·rintro⟨w,hw,e⟩
    rw[XQ hv (oh h2 w hw).1 e];exact hw
 | @scheme ws h2 h3=>
   rw[aba λw hw=>(gE h2 w hw).1];simp only[show ¬((3:Int)=1) by omega,show ¬((3:Int)=2) by omega,show ¬((3:Int)=4) by omega,decide_false,decide_true,zAd,zBe,zBb,zBd]
   rcases adg v with⟨h,hf⟩|⟨a,b,rfl,ha,hf,hc⟩
   ·rw[hf]
    simp only[Bool.not_false,zCa,true_iff];grind[pT,aet]
   ·rw[hf,hc]
    have hsa:ep a:=λc hc=>hv c (by simp[hc])
    have hsb:ep b:=λc hc=>hv c (by simp[hc])
    have e:sw (a++58::b)=sw a++26::sw b:=by rw[abJ];rfl
    simp only[Bool.not_true,zAd,Km,e];constructor
    ·intro hm
     exact .inr ⟨a,hm,sw b,by simp,pT hsb⟩
    ·rintro(h|⟨w,hw,r,he,_⟩)
     ·grind
     grind[gE,WI,sw,aet,XQ]
 |mat h1 h2=>
   simp only[show ¬((4:Int)=1) by omega,show ¬((4:Int)=2) by omega,show ¬((4:Int)=3) by omega,decide_false,decide_true,zAd,zBe,zBb]
   exact ah3 h1 h2 hv
end Go.Abs
end
section
set_option maxHeartbeats 1000000
set_option maxRecDepth 100000
namespace Go.Abs
open Go.Proofs Go.Aut
attribute [-simp] getElem?_pos zAe zBf
end Go.Abs
end
