/-
  Plain: of policies made good and nodes that are stable, the program's way to tell which nodes are allowed is the reference's. No program's run in sight. No condition.
  Plain: nodes that are allowed are so without one of them, if no two texts come to stand side by side. No program's run in sight. No condition.
-/
import Derived.Test.YthficpngadcpgaaGreatDoorPP4
import Derived.Test.YthficpngadcpgaaGreatDoorPF17
set_option linter.unusedVariables false
set_option linter.unusedSimpArgs false
set_option linter.unusedSectionVars false
section
set_option maxHeartbeats 4000000
set_option maxRecDepth 100000
namespace Go.Abs.F
open Go.Proofs
attribute [-simp] getElem?_pos Option.not_isSome List.map_map
theorem jF:∀ (l out:List Rule) (i:Nat),(∀ r∈out,∃ c,r.value=good12 c)→∀ r∈eH i out l,∃ c,r.value=good12 c
 | [],out,i,h=>by simpa [eH] using h
 | x::l,out,i,h=>by
   simp only [eH]
   split
   · exact jF l out _ h
   · refine jF l _ _ fun r hr=>?_
     rcases List.mem_append.1 hr with hr | hr
     · exact h r hr
     · simp at hr; subst hr
       unfold fk
       split<;>exact ⟨_,rfl⟩
theorem Mc {P:Node→Prop}:∀ (l:List Node) (k:Int) (par:Str),al P l→∀ x∈plL k par l,P x.2:=by
 refine aH (fun k par _ x hx=>by simp [plL] at hx) ?_
 intro n l h1 h2 k par ha x hx
 simp only [al,dv] at ha
 simp only [plL,tC,List.mem_cons,List.mem_append] at hx
 rcases hx with rfl | hx | hx
 · exact ha.1.1
 · exact h1 _ _ ha.1.2 x hx
 · exact h2 _ _ ha.2 x hx
def shp (n:Node):Prop:=(n.kind=1→named n.name=true)∧(n.kind≠1→n.kids=[])
theorem Jr {s:Str} (h:named s=true):s≠[]:=by rintro rfl; simp [named] at h
theorem Mo {n:Node} {b:Bool} (h:iA n b=0):shp n:=by
 unfold iA lV at h
 refine ⟨fun hk=>?_,fun hk=>?_⟩
 · rw [if_pos hk] at h
   split at h
   · split at h
     · assumption
     · simp at h
   · simp at h
 · rw [if_neg hk] at h
   split at h
   · split at h
     · rename_i h3; exact h3.2.2
     · simp at h
   · simp at h
theorem MD:∀ (l:List Node) (txt:Bool),fE txt l=0→al shp l:=by
 refine aH (fun _ _=>by simp [al]) ?_
 intro n l h1 h2 txt h
 simp only [fE,sT] at h
 split at h
 · rename_i ho
   split at h
   · rename_i hk
     simp only [al,dv]
     exact ⟨⟨Mo ho,h1 _ hk⟩,h2 _ h⟩
   · exact absurd h (by assumption)
 · exact absurd h (by assumption)
def fF (els:List Allowed) (l:List Str):Prop:=∀ s∈l,s=gI∨s=cu∨(a8 els s).isSome=true
def mQ (p:Policy):Prop:=fF p.elements p.top∧∀ e∈p.elements,fF p.elements e.kids
theorem uZ {l:List Allowed} {s:Str}:(a8 l s).isSome=true↔s∈l.map Allowed.name:=by
 induction l with
 | nil=>simp [a8]
 | cons e l ih=>
   simp only [a8,List.map_cons,List.mem_cons]
   by_cases h:e.name=s
   · simp [h]
   · rw [if_neg h,ih]
     constructor
     · exact .inr
     · rintro (h' | h')
       · exact absurd h'.symm h
       · exact h'
theorem zJ {a b:List Allowed} (h:a.map Allowed.name=b.map Allowed.name) {l:List Str} (hl:fF a l):fF b l:=fun s hs=>by
 rcases hl s hs with h1 | h1 | h1
 · exact .inl h1
 · exact .inr (.inl h1)
 · exact .inr (.inr (by rw [uZ,←h,←uZ]; exact h1))
theorem uW (p:Policy) (par:Str):∀ (l out:List Str),fF p.elements out→fF p.elements (nl p par out l)
 | [],out,h=>by simpa [nl] using h
 | x::l,out,h=>by
   simp only [nl]
   refine uW p par l _ ?_
   split
   · rename_i hk
     intro s hs
     simp only [kids,Bool.and_eq_true,List.all_eq_true] at hk
     have:=hk.1 s hs
     simp only [nf,Bool.and_eq_true,Bool.or_eq_true,decide_eq_true_eq] at this
     rcases this.2 with (h1 | h1) | h1
     · exact .inl h1
     · exact .inr (.inl h1)
     · exact .inr (.inr h1.1)
   · exact h
theorem vH (els:List Allowed) (k:Nat) (own:List Str):(dH els k own).map Allowed.name=els.map Allowed.name:=by
 unfold dH
 split
 · rename_i e he
   rw [List.map_set]
   refine List.ext_getElem? fun i=>?_
   rw [List.getElem?_set]
   split
   · subst_vars
     have:=(List.getElem?_eq_some_iff.1 he).1
     simp [he,this]
   · rfl
 · rfl
theorem vI {els:List Allowed} (k:Nat) (own:List Str) (h:∀ e∈els,fF els e.kids):∀ e∈dH els k own,fF (dH els k own) e.kids:=by
 intro e he
 refine zJ (vH els k own).symm ?_
 unfold dH at he
 split at he
 · rename_i x hx
   rcases List.mem_or_eq_of_mem_set he with he | he
   · exact h e he
   · subst he
     exact uW ⟨[],els,[]⟩ _ _ _ (fun s hs=>by cases hs)
 · exact h e he
theorem pu:∀ (l els:List Allowed) (k:Nat),(∀ e∈els,fF els e.kids)→∀ e∈dK k els l,fF (dK k els l) e.kids
 | [],els,k,h=>by simpa [dK] using h
 | x::l,els,k,h=>by
   simp only [dK]
   exact pu l _ _ (vI k x.kids h)
theorem oB:∀ (l out:List Allowed) (i:Nat),(∀ e∈out,e.kids=[])→∀ e∈ip i out l,e.kids=[]
 | [],out,i,h=>by simpa [ip] using h
 | x::l,out,i,h=>by
   simp only [ip]
   split
   · exact oB l out _ h
   · refine oB l _ _ fun e he=>?_
     rcases List.mem_append.1 he with he | he
     · exact h e he
     · simp at he; subst he; rfl
theorem AD (p:Policy):mQ (bF p):=by
 unfold bF
 refine ⟨?_,?_⟩
 · exact uW ⟨[],_,[]⟩ [] _ _ (fun s hs=>by cases hs)
 · refine pu _ _ _ fun e he s hs=>?_
   rw [oB _ [] 0 (by simp) e he] at hs
   cases hs
theorem rp {s:Str} (h:named s=true):s≠gI∧s≠cu:=by
 constructor<;>rintro rfl<;>exact absurd h (by decide)
theorem G7 {els:List Allowed} {l:List Str} {s:Str} (hl:fF els l) (hs:named s=true) (h:hasS l s=true):(a8 els s).isSome=true:=by
 rcases hl s (Cs.1 h) with h1 | h1 | h1
 · exact absurd h1 (rp hs).1
 · exact absurd h1 (rp hs).2
 · exact h1
theorem D9 {p:Policy} (hp:mQ p) {n:Node} (hn:shp n) (par:Str):px p par n=zM p par n:=by
 have key:∀ l:List Str,fF p.elements l→n.kind=1→((a8 p.elements n.name).isSome && hasS l n.name)=hasS l n.name:=fun l hl hk=>by
  cases h:hasS l n.name
  · simp
  · simp [G7 hl (hn.1 hk) h]
 unfold px zM Fs
 by_cases h0:par=[]
 · simp only [h0,if_true]
   by_cases hk:n.kind=1
   · simp [hk,key _ hp.1 hk]
   · simp [hk]
 · simp only [h0,if_false]
   cases hf:a8 p.elements par with
   | none=>simp [Allowed.zero,hasS]
   | some e=>
     simp only [Option.getD_some]
     by_cases hk:n.kind=1
     · simp [hk,key _ (hp.2 e (mI hf).1) hk]
     · simp [hk]
def plOK (k:Int) (par:Str):Prop:=(k=0∧par=[])∨(k=1∧par≠[])
theorem OZ {A:Constraint→Str→Bool} {H:Allowed→List Attr→Bool} (hH:∀ e l,H e l=pD A e l) {p:Policy} (hp:mQ p) {n:Node} (hn:shp n) {k:Int} {par:Str} (hk:plOK k par):
 okQ H p ((k,par),n)=tK A p par n:=by
 have hk':(k=0∧par=[])∨(k=1∧par≠[]):=hk
 simp only [okQ,tK,ml]
 rw [if_pos hk',D9 hp hn,hH]
theorem tJ (A:Constraint→Str→Bool) (p:Policy):∀ (l:List Node) (par:Str) (m:Nat),cK A p par l m=(if (cK A p par l 0).1 < 0 then -1 else (m:Int) + (cK A p par l 0).1,m + (cK A p par l 0).2):=by
 refine aH (fun par m=>by simp [cK]) ?_
 intro n l h1 h2 par m
 have hb:=pi A p n.kids n.name 0
 simp only [cK,sR]
 split
 · split
   · rw [if_neg (by simp only; omega)]
     refine Prod.ext ?_ ?_<;>simp only<;>omega
   · rw [h2 par (m + 1 + _),h2 par (0 + 1 + _)]
     have hb2:=pi A p l par 0
     generalize cK A p par l 0=q at *
     generalize (cK A p n.name n.kids 0).2=c at *
     simp only
     by_cases hq:q.1 < 0
     · simp only [hq,if_true]
       rw [if_pos (by omega)]
       refine Prod.ext rfl ?_
       simp only; omega
     · simp only [hq,if_false]
       rw [if_neg (by omega)]
       refine Prod.ext ?_ ?_<;>simp only<;>omega
 · rw [if_neg (by simp only; omega)]
   refine Prod.ext ?_ ?_<;>simp only<;>omega
theorem Jm {A:Constraint→Str→Bool} {H:Allowed→List Attr→Bool} (hH:∀ e l,H e l=pD A e l) {p:Policy} (hp:mQ p):∀ (l:List Node),al shp l→∀ (k:Int) (par:Str) (i:Nat) (rest:List Pl),plOK k par→
 qy (okQ H p) i (plL k par l++rest)=if 0≤(cK A p par l i).1 then (cK A p par l i).1 else qy (okQ H p) (cK A p par l i).2 rest:=by
 refine aH (fun _ k par i rest _=>by simp [plL,cK]) ?_
 intro n l h1 h2 ha k par i rest hk
 simp only [al,dv] at ha
 simp only [plL,tC,List.cons_append,List.append_assoc,qy,cK,sR]
 rw [OZ hH hp ha.1.1 hk]
 split
 · have hkids:∀ (rest:List Pl) (j:Nat),qy (okQ H p) j (plL n.kind n.name n.kids++rest)=if 0≤(cK A p n.name n.kids j).1 then (cK A p n.name n.kids j).1 else qy (okQ H p) (cK A p n.name n.kids j).2 rest:=by
    intro rest j
    by_cases hk1:n.kind=1
    · exact h1 ha.1.2 _ _ _ _ (.inr ⟨hk1,Jr (ha.1.1.1 hk1)⟩)
    · rw [ha.1.1.2 hk1]; simp [plL,cK]
   rw [hkids,tJ A p n.kids n.name (i + 1)]
   have hb:=pi A p n.kids n.name 0
   generalize cK A p n.name n.kids 0=q at *
   by_cases hq:0≤q.1
   · have hq2:¬q.1 < 0:=by omega
     simp only [hq,hq2,if_true,if_false]
     rw [if_pos (by omega),if_pos (by omega)]
     omega
   · have hq2:q.1 < 0:=by omega
     simp only [hq,hq2,if_true,if_false]
     rw [if_neg (by omega)]
     exact h2 ha.2 k par _ rest hk
 · rw [if_pos (by simp only; omega)]
theorem Mt {A:Constraint→Str→Bool} {H:Allowed→List Attr→Bool} (hH:∀ e l,H e l=pD A e l) {p:Policy} (hp:mQ p) {l:List Node} (hl:al shp l):vP H p l=Fl A p l:=by
 have:=Jm hH hp l hl 0 [] 0 [] (.inl ⟨rfl,rfl⟩)
 rw [List.append_nil] at this
 have hb:=pi A p l [] 0
 rw [vP,this,Fl]
 split
 · rfl
 · simp only [qy]; omega
theorem L8 {par:Str} (hr:raw par=true):∀ (l:List Node) (txt:Bool),fE txt l=0→l.all (en par)=true→l.length≤1
 | [],_,_,_=>by simp
 | [n],_,_,_=>by simp
 | n::m::l,txt,h,hf=>by
   have hv:yY par=false:=by
    simp only [raw,Bool.or_eq_true,decide_eq_true_eq] at hr
    rcases hr with rfl | rfl<;>decide
   simp only [List.all_cons,en,hv,hr,Bool.false_eq_true,if_false,if_true,Bool.and_eq_true,decide_eq_true_eq] at hf
   simp only [fE] at h
   split at h
   · split at h
     · split at h
       · rename_i h3
         simp only [iA] at h3
         rw [hf.1.1] at h3
         have h2:m.kind=2:=hf.2.1.1
         rw [if_neg (by omega),if_pos (.inl h2)] at h3
         split at h3
         · split at h3
           · rename_i h4
             have:=(h4.2 h2).2
             simp at this
           · simp at h3
         · simp at h3
       · exact absurd h (by assumption)
     · exact absurd h (by assumption)
   · exact absurd h (by assumption)
theorem JZ (n:Node):en [] n=true:=by
 have h1:yY []=false:=by decide
 have h2:raw []=false:=by decide
 simp [en,h1,h2,iN,aZ,hasS]
def rK (n:Node):Bool:=!(decide (n.kind=3) && gV ju n.text)
theorem Bn (par:Str) (n:Node):rh par n=(en par n && rK n):=by
 simp only [rh,rK,Bool.not_and]
theorem LX:∀ (l:List Node) (txt:Bool),fE txt l=0→(l.all rK && qo l)=qh l:=by
 refine aH (fun _ _=>by simp [qo,qh]) ?_
 intro n l h1 h2 txt h
 simp only [fE,sT] at h
 split at h
 · split at h
   · rename_i hk
     have e1:=h1 false hk
     have e2:=h2 _ h
     simp only [qo,y8,qh,M9,List.all_cons,oZ]
     rw [←e1,←e2]
     have e3:n.kids.all (rh n.name)=(n.kids.all (en n.name) && n.kids.all rK):=by
      rw [Bool.eq_iff_iff]
      simp only [List.all_eq_true,Bool.and_eq_true,Bn]
      exact ⟨fun h=>⟨fun x hx=>(h x hx).1,fun x hx=>(h x hx).2⟩,fun h x hx=>⟨h.1 x hx,h.2 x hx⟩⟩
     have e4:(!(raw n.name && decide (1 < n.kids.length)) && n.kids.all (en n.name))=n.kids.all (en n.name):=by
      cases hr:raw n.name
      · simp
      · cases hf:n.kids.all (en n.name)
        · simp
        · have:=L8 hr n.kids false hk hf
          simp; omega
     rw [e3,←Bool.and_assoc (!(raw n.name && decide (1 < n.kids.length))),e4,show rK n=!(decide (n.kind=3) && gV ju n.text) from rfl]
     generalize (!(decide (n.kind=3) && gV ju n.text))=c1
     generalize n.kids.all (en n.name)=c2
     generalize n.kids.all rK=c3
     generalize qo n.kids=c4
     generalize l.all rK=c5
     generalize qo l=c6
     cases c1<;>cases c2<;>cases c3<;>cases c4<;>cases c5<;>cases c6<;>rfl
   · exact absurd h (by assumption)
 · exact absurd h (by assumption)
theorem Dx (l:List Node):mn l=qp l:=by
 unfold mn qp
 by_cases hm:may l=0
 · have e:=LX l false hm
   have e3:l.all (rh [])=l.all rK:=by
    congr 1
    funext n
    rw [Bn,JZ,Bool.true_and]
   have h2:raw []=false:=by decide
   simp only [hm,decide_true,Bool.true_and,mh,oZ,e3,h2,Bool.false_and,Bool.not_false]
   exact e
 · simp [hm]
theorem GD {A:Constraint→Str→Bool} {H:Allowed→List Attr→Bool} (hH:∀ e l,H e l=pD A e l) {p:Policy} (hp:mQ p) (l:List Node):nZ H p l=f5 A p l:=by
 unfold nZ f5
 rw [Dx]
 cases hs:qp l
 · rfl
 · have hm:may l=0:=by
    simp only [qp,Bool.and_eq_true,decide_eq_true_eq] at hs
    exact hs.1
   rw [Mt hH hp (MD l false hm)]
def okN (A:Constraint→Str→Bool) (p:Policy) (par:Str) (l:List Node):Bool:=decide ((cK A p par l 0).1 < 0)
theorem yd (A:Constraint→Str→Bool) (p:Policy) (l:List Node) (par:Str) (many many':Nat) (h:(cK A p par l many).1 < 0):(cK A p par l many').1 < 0:=by
 rw [tJ] at h ⊢
 simp only at h ⊢
 split at h
 · rw [if_pos (by assumption)]; omega
 · omega
theorem tH (A:Constraint→Str→Bool) (p:Policy) (par:Str) (n:Node) (l:List Node):okN A p par (n::l)=(tK A p par n && (okN A p n.name n.kids && okN A p par l)):=by
 have hb:=(pi A p n.kids n.name 0).2.2.1
 simp only [okN,cK,sR]
 cases hn:tK A p par n
 · simp
 · simp only [if_true,Bool.true_and]
   by_cases hk:0≤(cK A p n.name n.kids 0).1
   · rw [if_pos hk]
     have h1:¬(cK A p n.name n.kids 0).1 < 0:=by omega
     simp [h1]; omega
   · rw [if_neg hk]
     have h1:(cK A p n.name n.kids 0).1 < 0:=by omega
     simp only [h1,decide_true,Bool.true_and]
     exact decide_eq_decide.2 ⟨yd A p l par _ _,yd A p l par _ _⟩
theorem tI (A:Constraint→Str→Bool) (p:Policy) (par:Str):∀ (a b:List Node),okN A p par (a++b)=(okN A p par a && okN A p par b)
 | [],b=>by simp [okN,cK]
 | n::a,b=>by rw [List.cons_append,tH,tH,tI A p par a b,Bool.and_assoc,Bool.and_assoc]
theorem rY:∀ (a b:List Node),qh (a++b)=(qh a && qh b)
 | [],b=>by simp [qh]
 | n::a,b=>by simp only [List.cons_append,qh,rY a b,Bool.and_assoc]
theorem mG {txt:Bool} {n:Node} {l:List Node}:fE txt (n::l)=0↔iA n txt=0∧fE false n.kids=0∧fE (decide (n.kind=2)) l=0:=by
 simp only [fE,sT]
 split
 · split
   · simp [*]
   · rename_i h1 h2
     exact ⟨fun h=>absurd h h2,fun h=>h.2.1⟩
 · rename_i h1
   exact ⟨fun h=>absurd h h1,fun h=>h.1⟩
def uh:Bool→List Node→Bool
 | txt,[]=>txt
 | _,n::l=>uh (decide (n.kind=2)) l
theorem rt:∀ (a b:List Node) (txt:Bool),fE txt (a++b)=0↔fE txt a=0∧fE (uh txt a) b=0
 | [],b,txt=>by simp [fE,uh]
 | n::a,b,txt=>by
   rw [List.cons_append,mG,mG,rt a b]
   simp only [uh]
   constructor
   · rintro ⟨h1,h2,h3,h4⟩; exact ⟨⟨h1,h2,h3⟩,h4⟩
   · rintro ⟨⟨h1,h2,h3⟩,h4⟩; exact ⟨h1,h2,h3,h4⟩
theorem DO {n:Node} {b:Bool} (h:iA n b=0):iA n false=0:=by
 unfold iA at h ⊢
 by_cases h1:n.kind=1
 · simpa [h1] using h
 · rw [if_neg h1] at h ⊢
   by_cases h2:n.kind=2∨n.kind=3
   · rw [if_pos h2] at h ⊢
     by_cases h3:n.name=[]∧n.attrs=[]∧n.kids=[]
     · rw [if_pos h3] at h ⊢
       by_cases h4:o9 n.text=true∧(n.kind=2→¬n.text=[]∧b=false)
       · rw [if_pos]
         exact ⟨h4.1,fun hk'=>⟨(h4.2 hk').1,rfl⟩⟩
       · rw [if_neg h4] at h; simp at h
     · rw [if_neg h3] at h; simp at h
   · rw [if_neg h2] at h; simp at h
theorem DN {n:Node} {b c:Bool} (hk:n.kind≠2) (h:iA n b=0):iA n c=0:=by
 unfold iA at h ⊢
 by_cases h1:n.kind=1
 · simpa [h1] using h
 · rw [if_neg h1] at h ⊢
   by_cases h2:n.kind=2∨n.kind=3
   · rw [if_pos h2] at h ⊢
     by_cases h3:n.name=[]∧n.attrs=[]∧n.kids=[]
     · rw [if_pos h3] at h ⊢
       by_cases h4:o9 n.text=true∧(n.kind=2→¬n.text=[]∧b=false)
       · rw [if_pos]
         exact ⟨h4.1,fun hk'=>absurd hk' hk⟩
       · rw [if_neg h4] at h; simp at h
     · rw [if_neg h3] at h; simp at h
   · rw [if_neg h2] at h; simp at h
theorem ug:∀ (u:List Node) (txt:Bool),uh txt u=true→u=[]∧txt=true∨∃ n,u[u.length - 1]?=some n∧n.kind=2
 | [],txt,h=>.inl ⟨rfl,h⟩
 | n::u,txt,h=>by
   simp only [uh] at h
   rcases ug u _ h with ⟨rfl,h1⟩ | ⟨m,h1,h2⟩
   · exact .inr ⟨n,by simp,of_decide_eq_true h1⟩
   · refine .inr ⟨m,?_,h2⟩
     have hlt:=(List.getElem?_eq_some_iff.1 h1).1
     rw [show (n::u).length - 1=(u.length - 1) + 1 by simp; omega,List.getElem?_cons_succ]
     exact h1
theorem JD {u v:List Node} {n:Node} (h:fE false (u++n::v)=0) (hne:∀ x y,u[u.length - 1]?=some x→v[0]?=some y→¬(x.kind=2∧y.kind=2)):fE false (u++v)=0:=by
 rw [rt] at h ⊢
 refine ⟨h.1,?_⟩
 have h2:=(mG.1 h.2).2.2
 cases v with
 | nil=>simp [fE]
 | cons m w=>
   rw [mG] at h2 ⊢
   refine ⟨?_,h2.2⟩
   cases hl:uh false u
   · exact DO h2.1
   · rcases ug u false hl with ⟨_,h3⟩ | ⟨x,h3,h4⟩
     · cases h3
     · exact DN (fun hm=>hne x m h3 rfl ⟨h4,hm⟩) h2.1
theorem JE (A:Constraint→Str→Bool) (p:Policy) {u v:List Node} {n:Node} (h:f5 A p (u++n::v)=true) (hne:∀ x y,u[u.length - 1]?=some x→v[0]?=some y→¬(x.kind=2∧y.kind=2)):f5 A p (u++v)=true:=by
 have e:∀ l:List Node,f5 A p l=(decide (fE false l=0) && (qh l && okN A p [] l)):=fun l=>by
  simp only [f5,qp,may,Fl,okN,Bool.and_assoc]
  rfl
 rw [e] at h ⊢
 simp only [Bool.and_eq_true,decide_eq_true_eq,rY,tI,tH,qh] at h ⊢
 exact ⟨JD h.1 hne,⟨h.2.1.1,h.2.1.2.2⟩,h.2.2.1,h.2.2.2.2.2⟩
end Go.Abs.F
end
