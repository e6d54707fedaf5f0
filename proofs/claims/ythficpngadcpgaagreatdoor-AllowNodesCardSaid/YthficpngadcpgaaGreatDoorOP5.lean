/-
  Plain: of policies made good and nodes that are stable, the program's way to tell which nodes are allowed is the reference's. No program's run in sight. No condition.
-/
import Derived.Test.YthficpngadcpgaaGreatDoorOP4
import Derived.Test.YthficpngadcpgaaGreatDoorOF17
set_option linter.unusedVariables false
set_option linter.unusedSimpArgs false
set_option linter.unusedSectionVars false
set_option maxHeartbeats 4000000
set_option maxRecDepth 100000
namespace Go.Abs.F
open Go.Proofs
attribute [-simp] getElem?_pos Option.not_isSome List.map_map
theorem gH:∀ (l out:List Rule) (i:Nat),(∀ r∈out,∃ c,r.value=good12 c)→∀ r∈fg i out l,∃ c,r.value=good12 c
 | [],out,i,h=>by simpa [fg] using h
 | x::l,out,i,h=>by
   simp only [fg]
   split
   · exact gH l out _ h
   · refine gH l _ _ fun r hr=>?_
     rcases List.mem_append.1 hr with hr | hr
     · exact h r hr
     · simp at hr; subst hr
       unfold fT
       split<;>exact ⟨_,rfl⟩
theorem KJ (c:Constraint):(1≤(good12 c).kind∧(good12 c).kind≤4)∧((good12 c).kind=4→rxB (good12 c).regex=true):=by
 have hr:=kind12_range c.kind
 unfold good12
 simp only
 split
 · refine ⟨by simp,fun _=>?_⟩
   simp only
   have hm:sumB c.regex % 7 < pool12.length:=Nat.mod_lt _ (by decide)
   rw [List.getElem?_eq_getElem hm]
   exact List.all_eq_true.1 PM _ (List.getElem_mem hm)
 · rename_i h
   exact ⟨by simp only; omega,fun h'=>absurd h' h⟩
theorem sL (p:Policy):r0 allows12 (aT p):=by
 intro e he r hr v hv
 obtain ⟨_,l,hl⟩:=p3 p e he
 rw [hl] at hr
 obtain ⟨c,hc⟩:=gH (l.take 3) [] 0 (by simp) r hr
 rw [hc]
 have:=KJ c
 exact xn (good12 c) v this.1 this.2 (by omega)
theorem PP {P:Node→Prop}:∀ (l:List Node) (k:Int) (par:Str),aj P l→∀ x∈plL k par l,P x.2:=by
 refine aB (fun k par _ x hx=>by simp [plL] at hx) ?_
 intro n l h1 h2 k par ha x hx
 simp only [aj,b9] at ha
 simp only [plL,vG,List.mem_cons,List.mem_append] at hx
 rcases hx with rfl | hx | hx
 · exact ha.1.1
 · exact h1 _ _ ha.1.2 x hx
 · exact h2 _ _ ha.2 x hx
def shp (n:Node):Prop:=(n.kind=1→named n.name=true)∧(n.kind≠1→n.kids=[])
theorem M7 {s:Str} (h:named s=true):s≠[]:=by rintro rfl; simp [named] at h
theorem GK (s:Str):named (r5 s)=true:=by
 unfold r5
 split
 · assumption
 · have hm:sumB s % 10 < IY.length:=Nat.mod_lt _ (by decide)
   rw [List.getElem?_eq_getElem hm]
   exact List.all_eq_true.1 (show IY.all named=true by decide) _ (List.getElem_mem hm)
theorem nJ {l:List Node} (h:aj shp l):aj shp (cR l):=
 aP.2 (A4 (P:=fun n=>shp n∧aj shp n.kids) (fun k n a t ks t' h=>h) (aP.1 h))
theorem KI:∀ l:List Node,aj shp (l.map bY):=by
 refine aB (by simp [aj]) ?_
 intro n l h1 h2
 simp only [List.map_cons,aj,b9]
 refine ⟨?_,h2⟩
 rw [iz]
 split
 · exact ⟨⟨fun _=>GK _,fun h=>absurd rfl h⟩,nJ h1⟩
 · exact ⟨⟨fun h=>absurd h (by assumption),fun _=>rfl⟩,by simp [aj]⟩
theorem xc (l:List Node):aj shp (bO l):=nJ (KI _)
theorem Em:∀ l:List Node,aj shp l→aj shp (l.flatMap aK):=by
 refine aB (fun _=>by simp [aj]) ?_
 intro n l h1 h2 ha
 simp only [aj,b9] at ha
 have happ:∀ a b:List Node,aj shp a→aj shp b→aj shp (a++b):=fun a b ha hb=>aP.2 fun x hx=>by
  rcases List.mem_append.1 hx with h | h
  · exact aP.1 ha x h
  · exact aP.1 hb x h
 rw [List.flatMap_cons]
 refine happ _ _ ?_ (h2 ha.2)
 rw [kq]
 split
 · simp [aj]
 · split
   · simp only [aj,b9]
     refine ⟨⟨⟨ha.1.1.1,fun h=>absurd (by assumption) h⟩,?_⟩,trivial⟩
     have hsub:aj shp ((aE n.name n.kids).flatMap aK):=aP.2 fun x hx=>by
      obtain ⟨y,hy,hxy⟩:=List.mem_flatMap.1 hx
      exact aP.1 (h1 ha.1.2) x (List.mem_flatMap.2 ⟨y,(List.mem_filter.1 hy).1,hxy⟩)
     exact aP.2 fun x hx=>aP.1 (nJ hsub) x (List.mem_filter.1 hx).1
   · simp only [aj]
     exact ⟨by rw [b9]; exact ha.1,trivial⟩
theorem HU (l:List Node):aj shp (eb l):=nJ (Em _ (xc l))
theorem P0 {n:Node} {b:Bool} (h:gJ n b=0):shp n:=by
 unfold gJ iF at h
 refine ⟨fun hk=>?_,fun hk=>?_⟩
 · rw [if_pos hk] at h
   split at h
   · split at h
     · assumption
     · simp at h
   · simp at h
 · rw [if_neg hk] at h
   split at h
   · split at h
     · rename_i h3; exact h3.2.2
     · simp at h
   · simp at h
theorem Qd:∀ (l:List Node) (txt:Bool),lS txt l=0→aj shp l:=by
 refine aB (fun _ _=>by simp [aj]) ?_
 intro n l h1 h2 txt h
 simp only [lS,u6] at h
 split at h
 · rename_i ho
   split at h
   · rename_i hk
     simp only [aj,b9]
     exact ⟨⟨P0 ho,h1 _ hk⟩,h2 _ h⟩
   · exact absurd h (by assumption)
 · exact absurd h (by assumption)
def gb (els:List Allowed) (l:List Str):Prop:=∀ s∈l,s=gz∨s=ct∨(aZ els s).isSome=true
def nU (p:Policy):Prop:=gb p.elements p.top∧∀ e∈p.elements,gb p.elements e.kids
theorem xi {l:List Allowed} {s:Str}:(aZ l s).isSome=true↔s∈l.map Allowed.name:=by
 induction l with
 | nil=>simp [aZ]
 | cons e l ih=>
   simp only [aZ,List.map_cons,List.mem_cons]
   by_cases h:e.name=s
   · simp [h]
   · rw [if_neg h,ih]
     constructor
     · exact .inr
     · rintro (h' | h')
       · exact absurd h'.symm h
       · exact h'
theorem Cx {a b:List Allowed} (h:a.map Allowed.name=b.map Allowed.name) {l:List Str} (hl:gb a l):gb b l:=fun s hs=>by
 rcases hl s hs with h1 | h1 | h1
 · exact .inl h1
 · exact .inr (.inl h1)
 · exact .inr (.inr (by rw [xi,←h,←xi]; exact h1))
theorem xf (p:Policy) (par:Str):∀ (l out:List Str),gb p.elements out→gb p.elements (oJ p par out l)
 | [],out,h=>by simpa [oJ] using h
 | x::l,out,h=>by
   simp only [oJ]
   refine xf p par l _ ?_
   split
   · rename_i hk
     intro s hs
     simp only [kids,Bool.and_eq_true,List.all_eq_true] at hk
     have:=hk.1 s hs
     simp only [oD,Bool.and_eq_true,Bool.or_eq_true,decide_eq_true_eq] at this
     rcases this.2 with (h1 | h1) | h1
     · exact .inl h1
     · exact .inr (.inl h1)
     · exact .inr (.inr h1.1)
   · exact h
theorem xW (els:List Allowed) (k:Nat) (own:List Str):(dZ els k own).map Allowed.name=els.map Allowed.name:=by
 unfold dZ
 split
 · rename_i e he
   rw [List.map_set]
   refine List.ext_getElem? fun i=>?_
   rw [List.getElem?_set]
   split
   · subst_vars
     have:=(List.getElem?_eq_some_iff.1 he).1
     simp [he,this]
   · rfl
 · rfl
theorem xX {els:List Allowed} (k:Nat) (own:List Str) (h:∀ e∈els,gb els e.kids):∀ e∈dZ els k own,gb (dZ els k own) e.kids:=by
 intro e he
 refine Cx (xW els k own).symm ?_
 unfold dZ at he
 split at he
 · rename_i x hx
   rcases List.mem_or_eq_of_mem_set he with he | he
   · exact h e he
   · subst he
     exact xf ⟨[],els,[]⟩ _ _ _ (fun s hs=>by cases hs)
 · exact h e he
theorem qQ:∀ (l els:List Allowed) (k:Nat),(∀ e∈els,gb els e.kids)→∀ e∈d8 k els l,gb (d8 k els l) e.kids
 | [],els,k,h=>by simpa [d8] using h
 | x::l,els,k,h=>by
   simp only [d8]
   exact qQ l _ _ (xX k x.kids h)
theorem qd:∀ (l out:List Allowed) (i:Nat),(∀ e∈out,e.kids=[])→∀ e∈ja i out l,e.kids=[]
 | [],out,i,h=>by simpa [ja] using h
 | x::l,out,i,h=>by
   simp only [ja]
   split
   · exact qd l out _ h
   · refine qd l _ _ fun e he=>?_
     rcases List.mem_append.1 he with he | he
     · exact h e he
     · simp at he; subst he; rfl
theorem q9 (p:Policy):nU (aT p):=by
 unfold aT
 refine ⟨?_,?_⟩
 · exact xf ⟨[],_,[]⟩ [] _ _ (fun s hs=>by cases hs)
 · refine qQ _ _ _ fun e he s hs=>?_
   rw [qd _ [] 0 (by simp) e he] at hs
   cases hs
theorem tw {s:Str} (h:named s=true):s≠gz∧s≠ct:=by
 constructor<;>rintro rfl<;>exact absurd h (by decide)
theorem KD {els:List Allowed} {l:List Str} {s:Str} (hl:gb els l) (hs:named s=true) (h:hasS l s=true):(aZ els s).isSome=true:=by
 rcases hl s (FC.1 h) with h1 | h1 | h1
 · exact absurd h1 (tw hs).1
 · exact absurd h1 (tw hs).2
 · exact h1
theorem HE {p:Policy} (hp:nU p) {n:Node} (hn:shp n) (par:Str):qR p par n=qS p par n:=by
 have key:∀ l:List Str,gb p.elements l→n.kind=1→((aZ p.elements n.name).isSome && hasS l n.name)=hasS l n.name:=fun l hl hk=>by
  cases h:hasS l n.name
  · simp
  · simp [KD hl (hn.1 hk) h]
 unfold qR qS wj
 by_cases h0:par=[]
 · simp only [h0,if_true]
   by_cases hk:n.kind=1
   · simp [hk,key _ hp.1 hk]
   · simp [hk]
 · simp only [h0,if_false]
   cases hf:aZ p.elements par with
   | none=>simp [Allowed.zero,hasS]
   | some e=>
     simp only [Option.getD_some]
     by_cases hk:n.kind=1
     · simp [hk,key _ (hp.2 e (jZ hf).1) hk]
     · simp [hk]
def plOK (k:Int) (par:Str):Prop:=(k=0∧par=[])∨(k=1∧par≠[])
theorem Sn {A:Constraint→Str→Bool} {H:Allowed→List Attr→Bool} (hH:∀ e l,H e l=mI A e l) {p:Policy} (hp:nU p) {n:Node} (hn:shp n) {k:Int} {par:Str} (hk:plOK k par):
 okQ H p ((k,par),n)=kG A p par n:=by
 have hk':(k=0∧par=[])∨(k=1∧par≠[]):=hk
 simp only [okQ,kG,nr]
 rw [if_pos hk',HE hp hn,hH]
theorem Hh (A:Constraint→Str→Bool) (p:Policy):∀ (l:List Node) (par:Str) (m:Nat),bF A p par l m=(if (bF A p par l 0).1 < 0 then -1 else (m:Int) + (bF A p par l 0).1,m + (bF A p par l 0).2):=by
 refine aB (fun par m=>by simp [bF]) ?_
 intro n l h1 h2 par m
 have hb:=kE A p n.kids n.name 0
 simp only [bF,u4]
 split
 · split
   · rw [if_neg (by simp only; omega)]
     refine Prod.ext ?_ ?_<;>simp only<;>omega
   · rw [h2 par (m + 1 + _),h2 par (0 + 1 + _)]
     have hb2:=kE A p l par 0
     generalize bF A p par l 0=q at *
     generalize (bF A p n.name n.kids 0).2=c at *
     simp only
     by_cases hq:q.1 < 0
     · simp only [hq,if_true]
       rw [if_pos (by omega)]
       refine Prod.ext rfl ?_
       simp only; omega
     · simp only [hq,if_false]
       rw [if_neg (by omega)]
       refine Prod.ext ?_ ?_<;>simp only<;>omega
 · rw [if_neg (by simp only; omega)]
   refine Prod.ext ?_ ?_<;>simp only<;>omega
theorem MY {A:Constraint→Str→Bool} {H:Allowed→List Attr→Bool} (hH:∀ e l,H e l=mI A e l) {p:Policy} (hp:nU p):∀ (l:List Node),aj shp l→∀ (k:Int) (par:Str) (i:Nat) (rest:List Pl),plOK k par→
 sq (okQ H p) i (plL k par l++rest)=if 0≤(bF A p par l i).1 then (bF A p par l i).1 else sq (okQ H p) (bF A p par l i).2 rest:=by
 refine aB (fun _ k par i rest _=>by simp [plL,bF]) ?_
 intro n l h1 h2 ha k par i rest hk
 simp only [aj,b9] at ha
 simp only [plL,vG,List.cons_append,List.append_assoc,sq,bF,u4]
 rw [Sn hH hp ha.1.1 hk]
 split
 · have hkids:∀ (rest:List Pl) (j:Nat),sq (okQ H p) j (plL n.kind n.name n.kids++rest)=if 0≤(bF A p n.name n.kids j).1 then (bF A p n.name n.kids j).1 else sq (okQ H p) (bF A p n.name n.kids j).2 rest:=by
    intro rest j
    by_cases hk1:n.kind=1
    · exact h1 ha.1.2 _ _ _ _ (.inr ⟨hk1,M7 (ha.1.1.1 hk1)⟩)
    · rw [ha.1.1.2 hk1]; simp [plL,bF]
   rw [hkids,Hh A p n.kids n.name (i + 1)]
   have hb:=kE A p n.kids n.name 0
   generalize bF A p n.name n.kids 0=q at *
   by_cases hq:0≤q.1
   · have hq2:¬q.1 < 0:=by omega
     simp only [hq,hq2,if_true,if_false]
     rw [if_pos (by omega),if_pos (by omega)]
     omega
   · have hq2:q.1 < 0:=by omega
     simp only [hq,hq2,if_true,if_false]
     rw [if_neg (by omega)]
     exact h2 ha.2 k par _ rest hk
 · rw [if_pos (by simp only; omega)]
theorem I0 {A:Constraint→Str→Bool} {H:Allowed→List Attr→Bool} (hH:∀ e l,H e l=mI A e l) {p:Policy} (hp:nU p) {l:List Node} (hl:aj shp l):x8 H p l=tu A p l:=by
 have:=MY hH hp l hl 0 [] 0 [] (.inl ⟨rfl,rfl⟩)
 rw [List.append_nil] at this
 have hb:=kE A p l [] 0
 rw [x8,this,tu]
 split
 · rfl
 · simp only [sq]; omega
theorem PL {par:Str} (hr:raw par=true):∀ (l:List Node) (txt:Bool),lS txt l=0→l.all (dt par)=true→l.length≤1
 | [],_,_,_=>by simp
 | [n],_,_,_=>by simp
 | n::m::l,txt,h,hf=>by
   have hv:BK par=false:=by
    simp only [raw,Bool.or_eq_true,decide_eq_true_eq] at hr
    rcases hr with rfl | rfl<;>decide
   simp only [List.all_cons,dt,hv,hr,Bool.false_eq_true,if_false,if_true,Bool.and_eq_true,decide_eq_true_eq] at hf
   simp only [lS] at h
   split at h
   · split at h
     · split at h
       · rename_i h3
         simp only [gJ] at h3
         rw [hf.1.1] at h3
         have h2:m.kind=2:=hf.2.1.1
         rw [if_neg (by omega),if_pos (.inl h2)] at h3
         split at h3
         · split at h3
           · rename_i h4
             have:=(h4.2 h2).2
             simp at this
           · simp at h3
         · simp at h3
       · exact absurd h (by assumption)
     · exact absurd h (by assumption)
   · exact absurd h (by assumption)
theorem NE (n:Node):dt [] n=true:=by
 have h1:BK []=false:=by decide
 have h2:raw []=false:=by decide
 simp [dt,h1,h2,jz,bj,hasS]
def tQ (n:Node):Bool:=!(decide (n.kind=3) && gP eR n.text)
theorem En (par:Str) (n:Node):tj par n=(dt par n && tQ n):=by
 simp only [tj,tQ,Bool.not_and]
theorem Pz:∀ (l:List Node) (txt:Bool),lS txt l=0→(l.all tQ && sd l)=lW l:=by
 refine aB (fun _ _=>by simp [sd,lW]) ?_
 intro n l h1 h2 txt h
 simp only [lS,u6] at h
 split at h
 · split at h
   · rename_i hk
     have e1:=h1 false hk
     have e2:=h2 _ h
     simp only [sd,BP,lW,Jm,List.all_cons,qB]
     rw [←e1,←e2]
     have e3:n.kids.all (tj n.name)=(n.kids.all (dt n.name) && n.kids.all tQ):=by
      rw [Bool.eq_iff_iff]
      simp only [List.all_eq_true,Bool.and_eq_true,En]
      exact ⟨fun h=>⟨fun x hx=>(h x hx).1,fun x hx=>(h x hx).2⟩,fun h x hx=>⟨h.1 x hx,h.2 x hx⟩⟩
     have e4:(!(raw n.name && decide (1 < n.kids.length)) && n.kids.all (dt n.name))=n.kids.all (dt n.name):=by
      cases hr:raw n.name
      · simp
      · cases hf:n.kids.all (dt n.name)
        · simp
        · have:=PL hr n.kids false hk hf
          simp; omega
     rw [e3,←Bool.and_assoc (!(raw n.name && decide (1 < n.kids.length))),e4,show tQ n=!(decide (n.kind=3) && gP eR n.text) from rfl]
     generalize (!(decide (n.kind=3) && gP eR n.text))=c1
     generalize n.kids.all (dt n.name)=c2
     generalize n.kids.all tQ=c3
     generalize sd n.kids=c4
     generalize l.all tQ=c5
     generalize sd l=c6
     cases c1<;>cases c2<;>cases c3<;>cases c4<;>cases c5<;>cases c6<;>rfl
   · exact absurd h (by assumption)
 · exact absurd h (by assumption)
theorem GV (l:List Node):ns l=pD l:=by
 unfold ns pD
 by_cases hm:may l=0
 · have e:=Pz l false hm
   have e3:l.all (tj [])=l.all tQ:=by
    congr 1
    funext n
    rw [En,NE,Bool.true_and]
   have h2:raw []=false:=by decide
   simp only [hm,decide_true,Bool.true_and,np,qB,e3,h2,Bool.false_and,Bool.not_false]
   exact e
 · simp [hm]
theorem Kb {A:Constraint→Str→Bool} {H:Allowed→List Attr→Bool} (hH:∀ e l,H e l=mI A e l) {p:Policy} (hp:nU p) (l:List Node):pL H p l=iY A p l:=by
 unfold pL iY
 rw [GV]
 cases hs:pD l
 · rfl
 · have hm:may l=0:=by
    simp only [pD,Bool.and_eq_true,decide_eq_true_eq] at hs
    exact hs.1
   rw [I0 hH hp (Qd l false hm)]
end Go.Abs.F
