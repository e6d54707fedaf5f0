/-
  What strainerref09's tables mean: languages of words between two places. No condition.
  What the reference's Allows tells is whether an expression matches. No condition.
  The small functions of layer 12's statements; lang's Allows of schemes; the least value that is allowed. No condition.
-/
import Derived.Test.YtloaikaippankaaGreatDoorTTh10
import Derived.Test.YtloaikaippankaaGreatDoorTF17
import Derived.Test.YtloaikaippankaaGreatDoorTTh6
set_option linter.unusedVariables false
set_option linter.unusedSimpArgs false
set_option linter.unusedSectionVars false
section
namespace Go.Abs
open Go.Aut
attribute [-simp] getElem?_pos Option.not_isSome List.map_map cl nt
def seg (u:List Nat) (i k:Nat):List Nat:=(u.take k).drop i
def kf (u:List Nat) (T:F.Tab) (L:Lg):Prop:=∀ i k,i≤u.length→k≤u.length→(T i k=true↔i≤k∧L (seg u i k))
def eps:Lg:=fun w=>w=[]
def non:Lg:=fun _=>False
def alt (A B:Lg):Lg:=fun w=>A w∨B w
theorem oE {u:List Nat} {i k:Nat} (hi:i≤k) (hk:k≤u.length):(seg u i k).length=k - i:=by simp [seg]; omega
theorem HE {u:List Nat} {i x k:Nat} (h1:i≤x) (h2:x≤k):seg u i k=seg u i x++seg u x k:=by
 simp only [seg]
 have e:u.take k=u.take x++(u.take k).drop x:=by
  conv=>lhs; rw [←List.take_append_drop x (u.take k)]
  rw [List.take_take,Nat.min_eq_left h2]
 by_cases hx:x≤u.length
 · conv=>lhs; rw [e]
   rw [List.drop_append_of_le_length (by simp; omega)]
 · rw [List.take_of_length_le (l:=u) (i:=k) (by omega),List.take_of_length_le (l:=u) (i:=x) (by omega),List.drop_of_length_le (l:=u) (i:=x) (by omega),List.append_nil]
theorem IL {u a b:List Nat} {i k:Nat} (hi:i≤k) (hk:k≤u.length) (h:seg u i k=a++b):i + a.length≤k∧seg u i (i + a.length)=a∧seg u (i + a.length) k=b:=by
 have hl:=oE hi hk
 rw [h,List.length_append] at hl
 have h1:i + a.length≤k:=by omega
 have h2:=HE (u:=u) (Nat.le_add_right i a.length) h1
 rw [h] at h2
 have h3:=List.append_inj h2 (by rw [oE (by omega) (by omega)]; omega)
 exact ⟨h1,h3.1.symm,h3.2.symm⟩
theorem AU {u:List Nat} {f g:F.Tab} {A B:Lg} (hf:kf u f A) (hg:kf u g B):kf u (F.both1 f g) (alt A B):=fun i k hi hk=>by
 simp only [F.both1,Bool.or_eq_true,hf i k hi hk,hg i k hi hk,alt,and_or_left]
theorem Ei {u:List Nat} {f g:F.Tab} {A B:Lg} (hf:kf u f A) (hg:kf u g B):kf u (F.jon (u.length + 1) f g) (cat A B):=fun i k hi hk=>by
 simp only [F.jon,F.jo,List.any_eq_true,List.mem_range,Bool.and_eq_true,decide_eq_true_eq,cat]
 constructor
 · rintro ⟨x,hx,hxk,h1,h2⟩
   obtain ⟨g1,g2⟩:=(hf i x hi (by omega)).1 h1
   obtain ⟨g3,g4⟩:=(hg x k (by omega) hk).1 h2
   exact ⟨by omega,_,_,HE g1 g3,g2,g4⟩
 · rintro ⟨hik,a,b,h,ha,hb⟩
   obtain ⟨h1,h2,h3⟩:=IL hik hk h
   exact ⟨i + a.length,by omega,h1,(hf _ _ hi (by omega)).2 ⟨by omega,by rw [h2]; exact ha⟩,(hg _ _ (by omega) hk).2 ⟨h1,by rw [h3]; exact hb⟩⟩
theorem JU (A B C:Lg):cat (cat A B) C=cat A (cat B C):=by
 funext w
 refine propext ⟨?_,?_⟩
 · rintro ⟨_,c,rfl,⟨a,b,rfl,ha,hb⟩,hc⟩
   exact ⟨a,b++c,by simp,ha,b,c,rfl,hb,hc⟩
 · rintro ⟨a,_,rfl,ha,b,c,rfl,hb,hc⟩
   exact ⟨a++b,c,by simp,⟨a,b,rfl,ha,hb⟩,hc⟩
theorem iN (A:Lg):cat eps A=A:=by
 funext w
 refine propext ⟨?_,fun h=>⟨[],w,rfl,rfl,h⟩⟩
 rintro ⟨a,b,rfl,rfl,h⟩
 exact h
theorem Bo (A:Lg):cat A eps=A:=by
 funext w
 refine propext ⟨?_,fun h=>⟨w,[],by simp,h,rfl⟩⟩
 rintro ⟨a,b,rfl,h,rfl⟩
 simpa using h
theorem fO (A:Lg):alt non A=A:=by funext w; simp [alt,non]
theorem Bv (A:Lg):alt A non=A:=by funext w; simp [alt,non]
theorem J3 (A B C:Lg):alt (alt A B) C=alt A (alt B C):=by funext w; simp [alt,or_assoc]
theorem StarApp {L:Lg} {a b:List Nat} (ha:Star L a) (hb:Star L b):Star L (a++b):=by
 induction hb with
 | nil=>simpa using ha
 | snoc _ h ih=>rw [←List.append_assoc]; exact .snoc ih h
inductive Pw (L:Lg):Nat→Lg
 | nil:Pw L 0 []
 | cons {j:Nat} {a b:List Nat}:L a→Pw L j b→Pw L (j + 1) (a++b)
theorem Pw.snoc {L:Lg} {j:Nat} {a b:List Nat} (h:Pw L j a) (hb:L b):Pw L (j + 1) (a++b):=by
 induction h with
 | nil=>simpa using Pw.cons hb .nil
 | cons h1 _ ih=>rw [List.append_assoc]; exact .cons h1 ih
theorem Pw.star {L:Lg} {j:Nat} {a:List Nat} (h:Pw L j a):Star L a:=by
 induction h with
 | nil=>exact .nil
 | cons h1 _ ih=>exact StarApp (Star.one h1) ih
theorem StarPw {L:Lg} {a:List Nat} (h:Star L a):∃ j,j≤a.length∧Pw L j a:=by
 induction h with
 | nil=>exact ⟨0,by simp,.nil⟩
 | @snoc u v h1 h2 ih=>
   obtain ⟨j,hj,hp⟩:=ih
   rcases v with _ | ⟨x,v⟩
   · exact ⟨j,by simpa using hj,by simpa using hp⟩
   · exact ⟨j + 1,by simp; omega,hp.snoc h2⟩
theorem OD (A:Lg):IY A=cat A (Star A):=by
 funext w
 refine propext ⟨?_,?_⟩
 · rintro ⟨a,b,rfl,ha,hb⟩
   obtain ⟨j,_,hp⟩:=StarPw ha
   have h2:=hp.snoc hb
   generalize a++b=w at h2
   cases h2 with
   | cons h1 h2=>exact ⟨_,_,rfl,h1,h2.star⟩
 · rintro ⟨a,b,rfl,ha,hb⟩
   have h2:Star A (a++b):=StarApp (Star.one ha) hb
   obtain ⟨j,_,hp⟩:=StarPw hb
   clear h2
   induction hb generalizing a with
   | nil=>exact ⟨[],a,by simp,.nil,ha⟩
   | @snoc u v h1 h2 ih=>exact ⟨a++u,v,by simp,StarApp (Star.one ha) h1,h2⟩
def stN (B:Lg):Nat→Lg→Lg
 | 0,A=>A
 | t + 1,A=>stN B t (alt A (cat A B))
theorem w5 {u:List Nat} {g:F.Tab} {B:Lg} (hg:kf u g B):∀ (t:Nat) {f:F.Tab} {A:Lg},kf u f A→kf u (F.star (u.length + 1) g t f) (stN B t A)
 | 0,f,A,h=>h
 | t + 1,f,A,h=>w5 hg t (AU h (Ei h hg))
theorem Hy {B:Lg}:∀ (t:Nat) {A:Lg} {w:List Nat},stN B t A w→cat A (Star B) w
 | 0,A,w,h=>⟨w,[],by simp,h,.nil⟩
 | t + 1,A,w,h=>by
   obtain ⟨a,b,rfl,ha,hb⟩:=Hy t h
   rcases ha with ha | ⟨a1,a2,rfl,h1,h2⟩
   · exact ⟨a,b,rfl,ha,hb⟩
   · exact ⟨a1,a2++b,by simp,h1,StarApp (Star.one h2) hb⟩
theorem FJ {B:Lg}:∀ (t:Nat) {A:Lg} {j:Nat} {a b:List Nat},j≤t→A a→Pw B j b→stN B t A (a++b)
 | 0,A,j,a,b,hj,ha,hb=>by
   obtain rfl:j=0:=by omega
   cases hb
   simpa [stN] using ha
 | t + 1,A,j,a,b,hj,ha,hb=>by
   cases hb with
   | nil=>exact FJ t (A:=alt A (cat A B)) (j:=0) (by omega) (.inl ha) .nil
   | @cons j b1 b2 h1 h2=>
     rw [←List.append_assoc]
     exact FJ t (A:=alt A (cat A B)) (by omega) (.inr ⟨a,b1,rfl,ha,h1⟩) h2
theorem Jb {u:List Nat} {f g:F.Tab} {A B:Lg} (hf:kf u f A) (hg:kf u g B):kf u (F.star (u.length + 1) g (u.length + 1) f) (cat A (Star B)):=fun i k hi hk=>by
 rw [w5 hg (u.length + 1) hf i k hi hk]
 refine and_congr_right fun hik=>⟨Hy _,?_⟩
 rintro ⟨a,b,h,ha,hb⟩
 have hl:=oE hik hk
 rw [h,List.length_append] at hl
 obtain ⟨j,hj,hp⟩:=StarPw hb
 rw [h]
 exact FJ _ (by omega) ha hp
def mu (p:F.Part):Lg:=if p.op=115 then den (.set p.set) else if p.op=116∨p.op=109 then eps else non
def yY (op:Nat) (A B:Lg):Lg:=if op=111 then alt A B else if op=116 then cat A B else if op=109 then cat A (Star B) else A
def nn (op:Nat) (ls:List Lg):Lg→List Nat→Lg
 | A,[]=>A
 | A,x::l=>nn op ls (yY op A ((ls[x]?).getD non)) l
def fV:List Lg→List F.Part→List Lg
 | acc,[]=>acc
 | acc,p::ps=>fV (acc++[nn p.op acc (mu p) p.l]) ps
def ga (ps:List F.Part) (k:Nat):Lg:=((fV [] (ps.take (k + 1)))[k]?).getD non
theorem LT {u:List Nat} {op:Nat} {f g:F.Tab} {A B:Lg} (hf:kf u f A) (hg:kf u g B):kf u (F.kid (u.length + 1) op f g) (yY op A B):=by
 unfold F.kid yY
 split
 · exact AU hf hg
 · split
   · exact Ei hf hg
   · split
     · exact Jb hf hg
     · exact hf
theorem Eh {u:List Nat}:kf u (fun _ _=>false) non:=fun i k _ _=>by simp [non]
def Ij (u:List Nat) (tabs:List F.Tab) (ls:List Lg):Prop:=tabs.length=ls.length∧∀ x:Nat,kf u ((tabs[x]?).getD fun _ _=>false) ((ls[x]?).getD non)
theorem AT {u:List Nat} {op:Nat} {tabs:List F.Tab} {ls:List Lg} (h:Ij u tabs ls):∀ (l:List Nat) {f:F.Tab} {A:Lg},kf u f A→kf u (F.kidT (u.length + 1) op tabs f l) (nn op ls A l)
 | [],f,A,hf=>hf
 | x::l,f,A,hf=>AT h l (LT hf (h.2 x))
theorem Lc {u:List Nat} {i k:Nat} (hi:i≤u.length) (hk:k≤u.length):(i≤k∧seg u i k=[])↔k=i:=by
 constructor
 · rintro ⟨h,h2⟩
   have:=oE h hk
   rw [h2] at this
   simp at this; omega
 · rintro rfl
   exact ⟨Nat.le_refl _,by simp [seg]⟩
theorem HD {u:List Nat} {i k c:Nat} (hk:k≤u.length):(i≤k∧seg u i k=[c])↔(k=i + 1∧u[i]?=some c):=by
 constructor
 · rintro ⟨h,h2⟩
   have:=oE h hk
   rw [h2] at this
   simp at this
   obtain rfl:k=i + 1:=by omega
   refine ⟨rfl,?_⟩
   have:=congrArg (fun l=>l[0]?) h2
   simpa [seg,List.getElem?_take] using this
 · rintro ⟨rfl,h⟩
   refine ⟨by omega,?_⟩
   have hl:=oE (u:=u) (i:=i) (k:=i + 1) (by omega) hk
   have h0:(seg u i (i + 1))[0]?=some c:=by simpa [seg,List.getElem?_take] using h
   rcases hs:seg u i (i + 1) with _ | ⟨a,_ | ⟨b,l⟩⟩
   · rw [hs] at h0; simp at h0
   · rw [hs] at h0; simpa using h0
   · rw [hs] at hl; simp at hl
theorem Lb {c:UInt8} (h:32≤c.toNat∧c.toNat≤126):F.sgn c=true:=by simp [F.sgn,h]
theorem Jc {s:Str} (hs:dp s) (p:F.Part):kf (sw s) (F.base p s) (mu p):=fun i k hi hk=>by
 have hl:(sw s).length=s.length:=by simp [sw]
 have hget:∀ i:Nat,(sw s)[i]?=(s[i]?).map fun c=>c.toNat - 32:=fun i=>by simp [sw]
 by_cases h115:p.op=115
 · have n1:¬p.op=116:=by omega
   have n2:¬p.op=109:=by omega
   unfold F.base mu
   rw [if_pos h115]
   have hr:(i≤k∧den (.set p.set) (seg (sw s) i k))↔(k=i + 1∧∃ c,(sw s)[i]?=some c∧p.set[c]?=some true):=by
    simp only [den]
    constructor
    · rintro ⟨h1,c,h2,h3⟩
      obtain ⟨g1,g2⟩:=(HD hk).1 ⟨h1,h2⟩
      exact ⟨g1,c,g2,h3⟩
    · rintro ⟨h1,c,h2,h3⟩
      obtain ⟨g1,g2⟩:=(HD hk).2 ⟨h1,h2⟩
      exact ⟨g1,c,g2,h3⟩
   rw [hr]
   rcases hc:s[i]? with _ | c
   · simp [F.sub,n1,n2,hget,hc]
   · have hcs:=hs c (List.mem_of_getElem? hc)
     simp only [if_pos (show p.op=115∧F.sgn c=true from ⟨h115,Lb hcs⟩),F.sub,n1,n2,decide_false,Bool.or_false,ite_self,hget,hc,Option.map_some,Option.some.injEq,exists_eq_left']
     by_cases hk2:k=i + 1
     · subst hk2
       simp only [if_true,true_and]
       rcases p.set[c.toNat - 32]? with _ | b<;>simp
     · simp [hk2]
 · have e:F.base p s i=F.sub i (decide (p.op=116) || decide (p.op=109)) fun _=>false:=by
    unfold F.base
    split
    · exact if_neg fun h=>h115 h.1
    · rfl
   rw [mu,if_neg h115]
   rw [e]
   by_cases ho:p.op=116∨p.op=109
   · rw [if_pos ho]
     have hb:(decide (p.op=116) || decide (p.op=109))=true:=by simpa using ho
     rw [hb]
     simp only [eps]
     rw [Lc hi hk]
     simp [F.sub]
   · rw [if_neg ho]
     have hb:(decide (p.op=116) || decide (p.op=109))=false:=by simpa using ho
     rw [hb]
     simp [F.sub,non]
theorem Ja {s:Str} (hs:dp s) {tabs:List F.Tab} {ls:List Lg} (h:Ij (sw s) tabs ls) (p:F.Part):kf (sw s) (F.stepT p s tabs) (nn p.op ls (mu p) p.l):=by
 have:=AT (op:=p.op) h p.l (Jc hs p)
 rwa [show (sw s).length=s.length by simp [sw]] at this
theorem AS {s:Str} (hs:dp s):∀ (ps:List F.Part) {tabs:List F.Tab} {ls:List Lg},Ij (sw s) tabs ls→Ij (sw s) (F.tabsGo s tabs ps) (fV ls ps)
 | [],tabs,ls,h=>h
 | p::ps,tabs,ls,h=>by
   refine AS hs ps ⟨by simp [h.1],fun x=>?_⟩
   rcases Nat.lt_trichotomy x tabs.length with hx | hx | hx
   · rw [List.getElem?_append_left hx,List.getElem?_append_left (by rw [←h.1]; exact hx)]
     exact h.2 x
   · rw [List.getElem?_append_right (by omega),List.getElem?_append_right (by rw [←h.1]; omega),←h.1,hx]
     simpa using Ja hs h p
   · rw [List.getElem?_eq_none (by simp; omega),List.getElem?_eq_none (by simp; rw [←h.1]; omega)]
     exact Eh
theorem Gf {s:Str} (hs:dp s) (ps:List F.Part) (k:Nat):F.matchT ps k s=true↔ga ps k (sw s):=by
 have h:=(AS hs (ps.take (k + 1)) (tabs:=[]) (ls:=[]) ⟨rfl,fun x=>by simpa using Eh⟩).2 k 0 s.length (by simp) (by simp [sw])
 unfold F.matchT ga
 rw [h]
 have e:seg (sw s) 0 s.length=sw s:=by rw [seg,List.drop_zero,List.take_of_length_le (by simp [sw])]
 rw [e]
 simp
end Go.Abs
end
section
set_option maxHeartbeats 1000000
set_option maxRecDepth 100000
namespace Go.Abs
open Go.Aut
attribute [-simp] getElem?_pos Option.not_isSome List.map_map cl nt
theorem Pd:den (.seq [])=eps:=by funext w; simp [den,lA,eps]
theorem uW:lA []=eps:=by funext w; simp [lA,eps]
theorem sJ (p:Rx) (l:List Rx):lA (p::l)=cat (den p) (lA l):=by funext w; simp only [lA]
theorem xV (l:List Rx):den (.seq l)=lA l:=by funext w; simp only [den]
theorem uX:xX []=non:=by funext w; simp only [xX,non]
theorem sK (p:Rx) (l:List Rx):xX (p::l)=alt (den p) (xX l):=by funext w; simp only [xX,alt]
theorem xW (l:List Rx):den (.alt l)=xX l:=by funext w; simp only [den]
theorem uU (p:Rx):den (.rep p 42)=Star (den p):=by
 funext w; simp only [den,if_neg (show ¬(42:Nat)=63 by omega),if_true]
theorem uV (p:Rx):den (.rep p 43)=cat (den p) (Star (den p)):=by
 rw [←OD]; funext w; simp only [den,if_neg (show ¬(43:Nat)=63 by omega),if_neg (show ¬(43:Nat)=42 by omega)]
def ps0:List F.Part:=[⟨115,cx 65,[]⟩,⟨109,[],[0]⟩,⟨116,[],[1]⟩,⟨111,[],[2]⟩]
def ps1:List F.Part:=[⟨115,cx 65,[]⟩,⟨116,[],[0]⟩,⟨115,cx 66,[]⟩,⟨116,[],[2]⟩,⟨111,[],[1,3]⟩,⟨109,[],[4]⟩,⟨116,[],[4,5]⟩,⟨116,[],[6]⟩,⟨111,[],[7]⟩]
def ps2:List F.Part:=[⟨115,digS,[]⟩,⟨109,[],[0]⟩,⟨116,[],[0,1]⟩,⟨116,[],[2]⟩,⟨111,[],[3]⟩]
def ps3:List F.Part:=[⟨115,cx 88,[]⟩,⟨115,J4,[]⟩,⟨115,cx 89,[]⟩,⟨116,[],[0,1,2]⟩,⟨111,[],[3]⟩]
def ps4:List F.Part:=[⟨115,LJ 65,[]⟩,⟨109,[],[0]⟩,⟨116,[],[1]⟩,⟨111,[],[2]⟩]
def ps5:List F.Part:=[⟨116,[],[]⟩,⟨111,[],[0]⟩]
def ps6:List F.Part:=[⟨115,cx 65,[]⟩,⟨116,[],[0]⟩,⟨115,cx 66,[]⟩,⟨115,cx 66,[]⟩,⟨116,[],[2,3]⟩,⟨115,cx 67,[]⟩,⟨116,[],[5]⟩,⟨111,[],[1,4,6]⟩]
theorem OK:F.parseF [97,42]=some (ps0,3):=by kernel_rfl
theorem OJ:F.parseF [40,97,124,98,41,43]=some (ps1,8):=by kernel_rfl
theorem OI:F.parseF [91,48,45,57,93,43]=some (ps2,4):=by kernel_rfl
theorem OH:F.parseF [120,46,121]=some (ps3,4):=by kernel_rfl
theorem OG:F.parseF [91,94,97,93,42]=some (ps4,3):=by kernel_rfl
theorem OF:F.parseF []=some (ps5,1):=by kernel_rfl
theorem OE:F.parseF [97,124,98,98,124,99]=some (ps6,7):=by kernel_rfl
theorem Ra:ga ps0 3=den rx0:=by
 simp [ga,ps0,fV,nn,yY,mu,iN,fO,rx0,uU]
theorem Q9:ga ps1 8=den rx1:=by
 simp [ga,ps1,fV,nn,yY,mu,iN,fO,Bv,rx1,uV,xW,sK,uX]
theorem Q8:ga ps2 4=den rx2:=by
 simp [ga,ps2,fV,nn,yY,mu,iN,fO,rx2,uV]
theorem Q7:ga ps3 4=den rx3:=by
 simp [ga,ps3,fV,nn,yY,mu,iN,Bo,JU,fO,rx3,xV,sJ,uW]
theorem Q6:ga ps4 3=den rx4:=by
 simp [ga,ps4,fV,nn,yY,mu,iN,fO,rx4,uU]
theorem Q5:ga ps5 1=den rx5:=by
 simp [ga,ps5,fV,nn,yY,mu,fO,rx5,Pd]
theorem Q4:ga ps6 7=den rx6:=by
 simp [ga,ps6,fV,nn,yY,mu,iN,Bo,fO,Bv,J3,rx6,xW,sK,uX,xV,sJ,uW]
theorem OA {s:Str} {x:Rx} (h:(s,x)∈dt) (hp:s∈F.pool12) {v:Str} (hv:dp v):F.rxM s v=true↔den x (sw v):=by
 have go:∀ {s:Str} {ps:List F.Part} {k:Nat} {x:Rx},F.parseF s=some (ps,k)→ga ps k=den x→(F.rxM s v=true↔den x (sw v)):=by
  intro s ps k x h1 h2
  rw [F.rxM,h1,←h2]
  exact Gf hv ps k
 simp only [dt,List.mem_cons,Prod.mk.injEq,List.not_mem_nil,or_false] at h
 rcases h with ⟨rfl,rfl⟩ | ⟨rfl,rfl⟩ | ⟨rfl,rfl⟩ | ⟨rfl,rfl⟩ | ⟨rfl,rfl⟩ | ⟨rfl,rfl⟩ | ⟨rfl,rfl⟩ | ⟨rfl,rfl⟩ | ⟨rfl,rfl⟩
 · exact go OK Ra
 · exact go OJ Q9
 · exact go OI Q8
 · exact go OH Q7
 · exact go OG Q6
 · exact go OF Q5
 · exact go OE Q4
 · simp [F.pool12] at hp
 · simp [F.pool12] at hp
theorem MX {v:Str}:v.all F.sign=true↔dp v:=by
 simp only [List.all_eq_true,F.sign,Bool.and_eq_true,decide_eq_true_eq,dp]
theorem xn {s:Str}:∀ {l:List Str},F.hasS l s=true↔s∈l
 | []=>by simp [F.hasS]
 | x::l=>by
   rw [F.hasS,List.mem_cons]
   by_cases h:x=s
   · simp [h]
   · rw [if_neg h,xn]
     exact ⟨.inr,fun h2=>h2.resolve_left fun e=>h e.symm⟩
theorem Ba (c:UInt8):∀ l:Str,((∀ x∈l,x≠c)∧Lib.indexByte l c=-1)∨∃ a b:Str,l=a++c::b∧(∀ x∈a,x≠c)∧Lib.indexByte l c=a.length
 | []=>.inl ⟨by simp,by simp [Lib.indexByte]⟩
 | y::l=>by
   by_cases h:y=c
   · exact .inr ⟨[],l,by simp [h],by simp,by simp [Lib.indexByte,h]⟩
   · rcases Ba c l with ⟨h1,h2⟩ | ⟨a,b,rfl,h1,h2⟩
     · refine .inl ⟨fun x hx=>?_,by simp [Lib.indexByte,h,h2]⟩
       rcases List.mem_cons.1 hx with rfl | hx
       · exact h
       · exact h1 x hx
     · refine .inr ⟨y::a,b,by simp,fun x hx=>?_,?_⟩
       · rcases List.mem_cons.1 hx with rfl | hx
         · exact h
         · exact h1 x hx
       · have:¬((a.length:Int)=-1):=by omega
         simp [Lib.indexByte,h,h2,this]
theorem JS (v:Str):((∀ c∈v,c≠58)∧(F.cutB v 58).2.2=false)∨∃ a b:Str,v=a++58::b∧(∀ c∈a,c≠58)∧(F.cutB v 58).2.2=true∧(F.cutB v 58).1=a:=by
 rcases Ba 58 v with ⟨h1,h2⟩ | ⟨a,b,e,h1,h2⟩
 · exact .inl ⟨h1,by rw [F.cutB,h2]; rfl⟩
 · have h:0≤Lib.indexByte v 58:=by omega
   refine .inr ⟨a,b,e,h1,by rw [F.cutB,if_pos h],?_⟩
   rw [F.cutB,if_pos h,h2,e]
   simp
theorem EQ {x:Nat}:∀ {a b c d:List Nat},a++x::b=c++x::d→x ∉ a→x ∉ c→a=c
 | [],b,[],d,h,ha,hc=>rfl
 | [],b,y::c,d,h,ha,hc=>by
   simp only [List.nil_append,List.cons_append,List.cons.injEq] at h
   exact absurd (h.1 ▸ List.mem_cons_self) hc
 | y::a,b,[],d,h,ha,hc=>by
   simp only [List.nil_append,List.cons_append,List.cons.injEq] at h
   exact absurd (h.1 ▸ List.mem_cons_self) ha
 | y::a,b,z::c,d,h,ha,hc=>by
   simp only [List.cons_append,List.cons.injEq] at h
   rw [h.1,EQ h.2 (fun m=>ha (by simp [m])) (fun m=>hc (by simp [m]))]
theorem K0 {a:Str} (h:∀ c∈a,c≠58) (hs:dp a):26 ∉ sw a:=fun hm=>by
 simp only [sw,List.mem_map] at hm
 obtain ⟨c,hc,he⟩:=hm
 refine h c hc ?_
 have:=hs c hc
 rw [←UInt8.toNat_inj]
 show c.toNat=58
 omega
theorem Dt {c:F.Constraint} {x:Rx} (h:GoodC c x) (v:Str):F.allows12 c v=true↔dp v∧den x (sw v):=by
 unfold F.allows12
 rw [Bool.and_eq_true,MX]
 refine and_congr_right fun hv=>?_
 cases h with
 | any=>
   have:=Ic (u:=sw v)
   simp only [decide_true,Bool.true_or,this,true_iff]
   exact jC hv
 | @enum ws h1 h2 h3=>
   rw [E6 fun w hw=>(iO h2 w hw).1]
   simp only [show ¬((2:Int)=1) by omega,show ¬((2:Int)=3) by omega,show ¬((2:Int)=4) by omega,decide_false,decide_true,Bool.false_or,Bool.true_and,Bool.false_and,Bool.or_false,xn]
   constructor
   · intro hm; exact ⟨v,hm,rfl⟩
   · rintro ⟨w,hw,e⟩
     rw [FG hv (iO h2 w hw).1 e]; exact hw
 | @scheme ws h2 h3=>
   rw [Ib fun w hw=>(dB h2 w hw).1]
   simp only [show ¬((3:Int)=1) by omega,show ¬((3:Int)=2) by omega,show ¬((3:Int)=4) by omega,decide_false,decide_true,Bool.false_or,Bool.true_and,Bool.false_and,Bool.or_false]
   rcases JS v with ⟨h,hf⟩ | ⟨a,b,rfl,ha,hf,hc⟩
   · rw [hf]
     simp only [Bool.not_false,Bool.true_or,true_iff]
     refine .inl fun c hc=>⟨jC hv c hc,fun e=>K0 h hv (e ▸ hc)⟩
   · rw [hf,hc]
     have hsa:dp a:=fun c hc=>hv c (by simp [hc])
     have hsb:dp b:=fun c hc=>hv c (by simp [hc])
     have e:sw (a++58::b)=sw a++26::sw b:=by rw [IE]; rfl
     simp only [Bool.not_true,Bool.false_or,xn,e]
     constructor
     · intro hm
       exact .inr ⟨a,hm,sw b,by simp,jC hsb⟩
     · rintro (h | ⟨w,hw,r,he,_⟩)
       · exact absurd rfl (h 26 (by simp)).2
       · obtain ⟨k1,_,k3⟩:=dB h2 w hw
         have:=EQ (a:=sw a) (b:=sw b) (c:=sw w) (d:=r) (by simpa using he) (K0 ha hsa) (K0 (fun c hc e=>by have:=k3 c hc; rw [e] at this; simp at this) k1)
         rw [FG hsa k1 this]; exact hw
 | mat h1 h2=>
   simp only [show ¬((4:Int)=1) by omega,show ¬((4:Int)=2) by omega,show ¬((4:Int)=3) by omega,decide_false,decide_true,Bool.false_or,Bool.true_and,Bool.false_and]
   exact OA h1 h2 hv
end Go.Abs
end
section
set_option maxHeartbeats 1000000
set_option maxRecDepth 100000
namespace Go.Abs
open Go.Proofs Go.Aut
attribute [-simp] getElem?_pos Option.not_isSome List.map_map
end Go.Abs

end
