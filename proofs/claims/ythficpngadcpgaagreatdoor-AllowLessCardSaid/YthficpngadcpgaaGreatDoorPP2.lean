/-
  Plain: where a raw element ends. No program in sight. No condition.
  What the program's functions for bytes, tokens and elements answer. No condition.
  What the program's functions for ends of raw elements, attributes' names, elements, kinds answer. No condition.
-/
import Derived.Test.YthficpngadcpgaaGreatDoorPF1
import Derived.Lib.IndexMore
import Derived.Test.YthficpngadcpgaaGreatDoorPP1
set_option linter.unusedVariables false
set_option linter.unusedSimpArgs false
set_option linter.unusedSectionVars false
section
set_option maxHeartbeats 4000000
set_option maxRecDepth 100000
namespace Go.Abs.F
open Go.Proofs
def fM:Str→Str→Bool
 | _,[]=>true
 | [],_::_=>false
 | b::s,c::w=>decide (cP b=c) && fM s w
theorem lp:∀ (w s:Str),s.length < w.length→fM s w=false
 | [],s,h=>by simp at h
 | c::w,[],_=>rfl
 | c::w,b::s,h=>by simp only [fM,lp w s (by simpa using h),Bool.and_false]
theorem x6:∀ (w s:Str),fM s w=decide ((s.take w.length).map cP=w)
 | [],s=>by cases s<;>simp [fM]
 | c::w,[]=>by simp [fM]
 | c::w,b::s=>by simp [fM,x6 w s,Bool.decide_and]
theorem uV {b c:UInt8} (hc:¬(97≤c.toNat∧c.toNat≤122)) (h:cP b=c):b=c:=by
 unfold cP at h
 split at h
 · rename_i hb
   exfalso
   apply hc
   rw [←h,qg (by omega)]
   omega
 · exact h
def jS:Option UInt8→Bool
 | some c=>xE c
 | none=>false
theorem J6 (nm u:Str):pS nm (60::47::u)=(fM u nm && jS u[nm.length]?):=by
 have e1:cP 60=60:=by decide
 have e2:cP 47=47:=by decide
 unfold pS
 rw [Nat.add_comm 2 nm.length,x6]
 simp [e1,e2]
 cases u[nm.length]?<;>rfl
theorem C0 (nm s:Str) (h:Lib.occAt s [60,47] 0=false):pS nm s=false:=by
 unfold pS
 rw [Bool.and_eq_false_iff]
 left
 rw [decide_eq_false_iff_not]
 intro hh
 rw [Nat.add_comm 2 nm.length] at hh
 match s with
 | []=>simp at hh
 | [b]=>simp at hh
 | b::c::u=>
   simp only [List.take_succ_cons,List.map_cons,List.cons_append,List.nil_append,List.cons.injEq] at hh
   have h1:=uV (by decide) hh.1
   have h2:=uV (by decide) hh.2.1
   subst h1 h2
   simp [Lib.occAt] at h
theorem lU (nm:Str):∀ (m:Nat) (s:Str) (k:Nat),m≤s.length→(∀ j,j < m→Lib.occAt s [60,47] j=false)→cZ nm k s=cZ nm (k + m) (s.drop m)
 | 0,s,k,_,_=>by simp
 | m + 1,[],k,h,_=>by simp at h
 | m + 1,b::t,k,h,ho=>by
   have h0:=C0 nm (b::t) (ho 0 (by omega))
   simp only [cZ,h0,Bool.false_eq_true,if_false,List.drop_succ_cons]
   rw [lU nm m t (k + 1) (by simpa using h) (fun j hj=>by have:=ho (j + 1) (by omega); simpa [Lib.occAt] using this)]
   congr 1
   omega
theorem CZ (nm s:Str) (k:Nat) (h:∀ j,j≤s.length→Lib.occAt s [60,47] j=false):cZ nm k s=-1:=by
 rw [lU nm s.length s k (Nat.le_refl _) (fun j hj=>h j (by omega)),List.drop_length]
 rfl
theorem Hw (nm u:Str) (k:Nat):cZ nm k (60::47::u)=if (fM u nm && jS u[nm.length]?)=true then (k:Int) else cZ nm (k + 2) u:=by
 have h0:pS nm (47::u)=false:=C0 nm _ (by simp [Lib.occAt,List.isPrefixOf])
 rw [cZ,J6,cZ,h0]
 rfl
theorem Jn {s:Str} {i:Nat} (h:Lib.occAt s [60,47] i=true):∃ u,s.drop i=60::47::u:=by
 unfold Lib.occAt at h
 match hs:s.drop i with
 | []=>rw [hs] at h; simp at h
 | [b]=>rw [hs] at h; simp at h
 | b::c::u=>
   rw [hs] at h
   simp at h
   exact ⟨u,by rw [←h.1,←h.2]⟩
theorem uC (w:Str) (hw:w≠[]):∀ s:Str,gV w s=decide (0≤Lib.index s w)
 | []=>by
   cases w with
   | nil=>exact (hw rfl).elim
   | cons c w=>simp [gV,dN,Lib.index]
 | b::t=>by
   have ih:=uC w hw t
   have hge:=Lib.index_ge t w
   have e:Lib.index (b::t) w=if w.isPrefixOf (b::t) then 0 else if Lib.index t w == -1 then -1 else Lib.index t w + 1:=rfl
   have hb:dN (b::t) w=w.isPrefixOf (b::t):=by
    rw [Bool.eq_iff_iff]
    simp only [dN,Bool.and_eq_true,decide_eq_true_eq,List.isPrefixOf_iff_prefix]
    constructor
    · rintro ⟨h1,h2⟩; rw [←h2]; exact List.take_prefix _ _
    · intro h; exact ⟨h.length_le,(List.prefix_iff_eq_take.1 h).symm⟩
   rw [Bool.eq_iff_iff]
   simp only [gV,ih,hb,Bool.or_eq_true,decide_eq_true_eq]
   rw [e]
   by_cases h:w.isPrefixOf (b::t)=true
   · simp [h]
   · rw [if_neg h]
     by_cases h1:Lib.index t w=-1
     · simp [h,h1]
     · rw [if_neg (by simpa using h1)]
       have:0≤Lib.index t w:=by omega
       simp [this]; omega
end Go.Abs.F
end
section
set_option maxHeartbeats 4000000
set_option maxRecDepth 100000
namespace Go.Abs.F
open Go.Proofs
attribute [-simp] getElem?_pos Option.not_isSome List.map_map
theorem CR (b:UInt8):Fn Tryz.prog BT [.int .u8 b.toNat] (.int .u8 (cP b).toNat):=by
 refine Fn.of_image mixed Cu Cf rfl fun ho=>?_
 unfold rL
 simp only [oks,ok,and_true] at ho
 have hb:=b.toNat_lt
 by_cases h:65≤b.toNat∧b.toNat≤90
 · have e:(cP b).toNat=b.toNat + 32:=by simp [cP,h,qg (show b.toNat + 32 < 256 by omega)]
   rw [e]
   simp (disch:=omega) [-List.reduceReplicate,h]
   repeat' (first | (refine BrKd.mk (fun h=>?_) (fun h=>?_)<;>simp (disch:=omega) [*]) | (refine BrK.mk (fun h=>?_) (fun h=>?_)<;>simp (disch:=omega) [*]))
   all_goals omega
 · have e:cP b=b:=by simp only [cP,if_neg h]
   rw [e]
   simp (disch:=omega) [-List.reduceReplicate]
   repeat' (first | (refine BrKd.mk (fun h=>?_) (fun h=>?_)<;>simp (disch:=omega) [*]) | (refine BrK.mk (fun h=>?_) (fun h=>?_)<;>simp (disch:=omega) [*]))
   all_goals omega
theorem AH (s w:Str):Fn Tryz.prog zk [.str s,.str w] (.bool (fM s w)):=by
 refine Fn.of_image mixed Ai zQ rfl fun ho=>?_
 unfold pX
 simp only [oks,ok,and_true] at ho
 obtain ⟨ho1,ho2⟩:=ho
 generalize hr:fM s w=r
 simp (disch:=omega) [-List.reduceReplicate]
 refine BrKd.mk (fun h=>?_) (fun h=>?_)
 · simp (disch:=omega) [-List.reduceReplicate,h]
   rw [←hr,lp w s (by omega)]
 · simp (disch:=omega) [-List.reduceReplicate,h]
   refine am (fun k:Nat=>⟨[(0,.str s),(1,.str w),(12,.int .i64 w.length),(13,.int .i64 k)],[]⟩) (fun k=>k≤w.length∧fM (s.drop k) (w.drop k)=r) (fun k=>w.length - k) [] _ 0 rfl (by simp) (by simp [hr]) ?_
   rintro k ⟨hk,hi⟩ N hN
   rcases place w k hk with ⟨he,hd⟩ | ⟨hlt,x,hx,hd⟩
   · rw [hd] at hi
     simp (disch:=omega) [-List.reduceReplicate,he]
     cases hs:s.drop k<;>simpa [hs,fM] using hi
   · obtain ⟨y,hy⟩:=aV (l:=s) (k:=k) (by omega)
     have hds:s.drop k=y::s.drop (k + 1):=by
      rw [List.drop_eq_getElem_cons (by omega)]
      have:s[k]?=some (s[k]'(by omega)):=List.getElem?_eq_getElem _
      rw [this] at hy
      cases hy
      rfl
     rw [hd,hds] at hi
     simp only [fM] at hi
     replace hi:=hid hi
     simp (disch:=omega) [-List.reduceReplicate,hx,hy]
     refine az (CR y) rfl ?_
     simp (disch:=omega) [-List.reduceReplicate,hx,hy]
     refine BrKd.mk (fun h=>?_) (fun h=>?_)
     · simp (disch:=omega) [-List.reduceReplicate,h]
       have hi:=hi.out
       have:cP y=x:=by apply UInt8.toNat_inj.1; omega
       refine hN.out _<|Nx.mk (k + 1) (by simp) ⟨by omega,by simpa [this] using hi⟩ (by omega)
     · have:¬cP y=x:=by intro h'; rw [h'] at h; simp at h
       simp (disch:=omega) [-List.reduceReplicate,h]
       have hi:=hi.out
       simpa [this] using hi
theorem xm (b:UInt8):Fn Tryz.prog vQ [.int .i32 b.toNat] (.bool (C7 b)):=by
 refine Fn.of_image mixed wP wm rfl fun ho=>?_
 unfold nq
 simp only [oks,ok,and_true] at ho
 have hb:=b.toNat_lt
 simp (disch:=omega) [-List.reduceReplicate,C7]
 repeat' (first | (refine BrKd.mk (fun h=>?_) (fun h=>?_)<;>simp (disch:=omega) [*]) | (refine BrK.mk (fun h=>?_) (fun h=>?_)<;>simp (disch:=omega) [*]))
theorem u4 (s:Str) (hs:s.length≤1000000000):Fn Tryz.prog Js [.str s] (.bool (o9 s)):=by
 refine Fn.of_image mixed JS JN rfl fun ho=>?_
 unfold C6
 simp only [oks,ok,and_true] at ho
 clear ho
 rw [Gp]
 simp (disch:=omega) [-List.reduceReplicate,isU]
 refine ac (ox s (by omega)) rfl fun _=>?_
 simp (disch:=omega) [-List.reduceReplicate]
 refine BrK.mk (fun h=>?_) (fun h=>?_)
 · simp (disch:=omega) [-List.reduceReplicate,h]
   generalize hr:((cr s).all fun r=>!decide (r=0) && !decide (r=13))=R
   refine am (fun k:Nat=>⟨[(9,.ref 0 0)],[some (.itr s k)]⟩) (fun k=>k≤s.length∧((cr (s.drop k)).all fun r=>!decide (r=0) && !decide (r=13))=R) (fun k=>s.length - k) [] _ 0 rfl (by simp) (by simp [hr]) ?_
   rintro k ⟨hk,hi⟩ N hN
   by_cases hlt:k < s.length
   · have hdo:=Kc s k hlt
     obtain ⟨b,t,hd⟩:∃ b t,s.drop k=b::t:=by
      cases hd:s.drop k with
      | nil=>have:=congrArg List.length hd; simp at this; omega
      | cons b t=>exact ⟨b,t,rfl⟩
     rw [hd] at hdo hi
     rw [eA,←hdo,←hd,List.drop_drop] at hi
     have hor:=eC (b::t)
     have hlen:=hor.2.2.1 (by simp)
     rw [←hdo] at hor hlen
     have hlen2:(b::t).length=s.length - k:=by rw [←hd]; simp
     simp only [List.all_cons] at hi
     replace hi:=hid hi
     clear hdo
     simp (disch:=omega) [-List.reduceReplicate,hlt]
     repeat' (first | (refine BrKd.mk (fun h=>?_) (fun h=>?_)<;>simp (disch:=omega) [*]) | (refine BrK.mk (fun h=>?_) (fun h=>?_)<;>simp (disch:=omega) [*]))
     all_goals first
      | omega
      | (refine hN.out _<|Nx.mk (k + (pV s k).2) (by simp [*]) ⟨by omega,?_⟩ (by omega); have hi:=hi.out; simpa (disch:=omega) [*] using hi)
      | (have hi:=hi.out; simpa (disch:=omega) [*] using hi)
   · have hkl:k=s.length:=by omega
     subst hkl
     simp (disch:=omega) [-List.reduceReplicate]
     simpa [cr,eB] using hi
 · simp (disch:=omega) [-List.reduceReplicate,h]
theorem AI (s nm:Str) (hs:s.length≤1000000000) (hn:nm.length≤1000000):Fn Tryz.prog zl [.str s,.str nm] (.int .i64 (ends s nm)):=by
 refine Fn.of_image mixed Aj zR rfl fun ho=>?_
 unfold pY
 simp only [oks,ok,and_true] at ho
 clear ho
 simp (disch:=omega) [-List.reduceReplicate]
 generalize hr:ends s nm=r
 refine am (fun k:Nat=>⟨[(0,.str s),(1,.str nm),(5,.int .i64 k)],[]⟩) (fun k=>k≤s.length∧cZ nm k (s.drop k)=r) (fun k=>s.length - k) [] _ 0 rfl (by simp) (by simp [←hr,ends]) ?_
 rintro k ⟨hk,hi⟩ N hN
 have tk:∀ i,(s.drop i).take (s.length - i)=s.drop i:=fun i=>List.take_of_length_le (by simp)
 simp (disch:=omega) [-List.reduceReplicate,hk,tk]
 have hsl:(s.drop k).length < 4294967281:=by simp; omega
 refine ac (kA (s.drop k) [60,47] hsl) rfl fun _=>?_
 rcases Lib.index_spec (s.drop k) [60,47] with ⟨e,hno⟩ | ⟨j,e,hj,hocc,hno⟩
 · rw [CZ nm _ _ hno] at hi
   simp (disch:=omega) [-List.reduceReplicate,e,hi]
 · obtain ⟨u,hu⟩:=Jn hocc
   have hu':s.drop (k + j)=60::47::u:=by rw [←List.drop_drop]; exact hu
   have hu2:s.drop (k + j + 2)=u:=by rw [←List.drop_drop,hu']; rfl
   have hlen:u.length + 2=s.length - (k + j):=by have:=congrArg List.length hu'; simpa using this.symm
   rw [lU nm j _ k hj hno,hu,Hw] at hi
   have no:(fM u nm && jS u[nm.length]?)=false→cZ nm (k + j + 2) (s.drop (k + j + 2))=r:=fun h=>by rw [if_neg (by rw [h]; exact Bool.false_ne_true)] at hi; rw [hu2]; exact hi
   have yes:(fM u nm && jS u[nm.length]?)=true→r=(k:Int) + j:=fun h=>by rw [if_pos h] at hi; rw [←hi]; simp
   replace no:=hid no
   replace yes:=hid yes
   clear hi
   have hul:s.length - (k + j + 2)=u.length:=by omega
   have hc1:((k:Int) + (j:Int) + 2).toNat=k + j + 2:=by omega
   have hc2:(k:Int) + (j:Int) + 2≤s.length:=by omega
   have hc3:k + j + 2≤s.length:=by omega
   simp (disch:=omega) [-List.reduceReplicate,e,hc1,hc2,hc3,hu2,tk,hul]
   refine BrKd.mk (fun h=>?_) (fun h=>?_)
   · simp (disch:=omega) [-List.reduceReplicate,h]
     refine hN.out _<|Nx.mk (k + j + 2) (by simp) ⟨by omega,no.out ?_⟩ (by omega)
     have:u[nm.length]?=none:=by rw [List.getElem?_eq_none_iff]; omega
     simp [this,jS]
   · simp (disch:=omega) [-List.reduceReplicate,h]
     refine ac (AH u nm) rfl fun _=>?_
     simp (disch:=omega) [-List.reduceReplicate,h]
     refine BrK.mk (fun h2=>?_) (fun h2=>?_)
     · simp (disch:=omega) [-List.reduceReplicate,h2]
       have hlt:nm.length < u.length:=by
        by_cases h3:u.length < nm.length
        · rw [lp nm u h3] at h2; cases h2
        · omega
       obtain ⟨c,hc⟩:=aV (l:=u) (k:=nm.length) hlt
       have hcb:=c.toNat_lt
       simp (disch:=omega) [-List.reduceReplicate,hc]
       refine ac (xm c) rfl fun _=>?_
       simp (disch:=omega) [-List.reduceReplicate]
       repeat' (first
        | (refine BrKd.mk (fun h=>?_) (fun h=>?_)<;>simp (disch:=omega) [*])
        | (refine BrK.mk (fun h=>?_) (fun h=>?_)<;>simp (disch:=omega) [*]))
       all_goals first
        | (refine hN.out _<|Nx.mk (k + j + 2) (by simp) ⟨by omega,no.out ?_⟩ (by omega); simp_all [jS,xE]; done)
        | (rw [yes.out ?_]; simp_all [jS,xE]; done)
     · simp (disch:=omega) [-List.reduceReplicate,h2]
       refine hN.out _<|Nx.mk (k + j + 2) (by simp) ⟨by omega,no.out ?_⟩ (by omega)
       simp [h2]
theorem qN (s:Str) (hs:s.length≤1000000000):Fn Tryz.prog qB [.str s] (.bool (de s)):=by
 refine Fn.of_image mixed qJ qH rfl fun ho=>?_
 unfold jp
 simp only [oks,ok,and_true] at ho
 clear ho
 simp (disch:=omega) [-List.reduceReplicate]
 generalize hr:de s=r
 refine am (fun k:Nat=>⟨[(0,.str s),(6,.int .i64 s.length),(7,.int .i64 k)],[]⟩) (fun k=>k≤s.length∧((s.drop k).all (fun b=>!di b) && (decide (cJ s=s) && decide (0 < s.length)))=r) (fun k=>s.length - k) [] _ 0 rfl (by simp) (by simp [←hr,de]) ?_
 rintro k ⟨hk,hi⟩ N hN
 rcases place s k hk with ⟨he,hd⟩ | ⟨hlt,x,hx,hd⟩<;>rw [hd] at hi<;>replace hi:=hid hi
 · simp (disch:=omega) [-List.reduceReplicate,he]
   refine BrKd.mk (fun h=>?_) (fun h=>?_)
   · have hp:s=[]:=by simpa using h
     subst hp
     simp (disch:=omega) [-List.reduceReplicate]
     have hi:=hi.out
     simpa using hi
   · simp (disch:=omega) [-List.reduceReplicate,h]
     refine ac (u4 s hs) rfl fun _=>?_
     have hi:=hi.out
     have hp:0 < s.length:=List.length_pos_iff.2 (by simpa using h)
     simp (disch:=omega) [-List.reduceReplicate,o9]
     simpa [hp] using hi
 · have hb:=x.toNat_lt
   simp only [List.all_cons] at hi
   simp (disch:=omega) [-List.reduceReplicate,hx]
   repeat' (first
    | (refine BrKd.mk (fun h=>?_) (fun h=>?_)<;>simp (disch:=omega) [*])
    | (refine BrK.mk (fun h=>?_) (fun h=>?_)<;>simp (disch:=omega) [*]))
   all_goals first
    | omega
    | (refine hN.out _<|Nx.mk (k + 1) (by simp [*]) ⟨by omega,?_⟩ (by omega); have hi:=hi.out; simpa (disch:=omega) [di,decide_eq_true,decide_eq_false, *] using hi)
    | (have hi:=hi.out; simpa (disch:=omega) [di,decide_eq_true,decide_eq_false, *] using hi)
def ji:Nat→List Attr→List (V × V)
 | _,[]=>[]
 | i,a::l=>(.str a.name,.int .i64 i)::ji (i + 1) l
theorem sV (s t:Str):eqK (.str s) (.str t)=decide (s=t):=by simp [eqK,cl,pQ,eqC]
theorem mE (s:Str):∀ (l:List Attr) (i:Nat),(pp (.str s) (ji i l)).isSome=iD l s
 | [],i=>rfl
 | a::l,i=>by
   simp only [ji,pp,sV,decide_eq_true_eq,iD]
   by_cases h:s=a.name
   · rw [if_pos h,if_pos h.symm]; rfl
   · rw [if_neg h,if_neg (fun e=>h e.symm)]; exact mE s l (i + 1)
theorem mD (s:Str) (u:V):∀ (l:List Attr) (i:Nat),iD l s=false→kN (.str s) u (ji i l)=ji i l++[(.str s,u)]
 | [],i,_=>rfl
 | a::l,i,h=>by
   simp only [iD] at h
   have h':¬a.name=s:=by intro e; rw [if_pos e] at h; cases h
   rw [if_neg h'] at h
   simp only [ji,kN,sV,decide_eq_true_eq]
   rw [if_neg (fun e=>h' e.symm),mD s u l (i + 1) h]
   rfl
theorem yF (a:Attr):∀ (l:List Attr) (i:Nat),ji i (l++[a])=ji i l++[(.str a.name,.int .i64 (i + l.length:Nat))]
 | [],i=>by simp [ji]
 | b::l,i=>by
   simp only [List.cons_append,ji,yF a l (i + 1),List.length_cons]
   congr 5
   omega
abbrev ktS1:KT:=⟨false,[.s]⟩
theorem xA (n:Node) (hf:ky n) (ht:n.text=[]):Fn Tryz.prog wh [.sptr n.v 0] (.int .i64 (lV n)):=by
 refine Fn.of_image mixed xh wK rfl fun ho=>?_
 unfold nJ
 simp only [oks,ok,and_true] at ho
 clear ho
 obtain ⟨h1,h2,h3,h4⟩:=hf
 simp (disch:=omega) [-List.reduceReplicate,lV,ht]
 refine ac (lS n.name) rfl fun _=>?_
 simp (disch:=omega) [-List.reduceReplicate]
 refine BrK.mk (fun hn=>?_) (fun hn=>?_)
 · simp (disch:=omega) [-List.reduceReplicate,hn]
   generalize hD:sF [] n.attrs=D
   have hDc:=ve n.attrs []
   rw [hD] at hDc
   refine am (fun (k:Nat)=>⟨[(0,.sptr n.v 0),(3,.ref 0 0),(20,.seq 2 (n.attrs.map Attr.v)),(21,.int .i64 n.attrs.length),(22,.int .i64 k)],[some (.mp ktS1 (ji 0 (n.attrs.take k)))]⟩)
    (fun k=>k≤n.attrs.length∧sF (n.attrs.take k) (n.attrs.drop k)=D) (fun k=>n.attrs.length - k) [] _ 0 rfl (by simp [ht,ji]) (by simp [hD]) ?_
   rintro k ⟨hk,hi⟩ N hN
   rcases place n.attrs k hk with ⟨he,hd⟩ | ⟨hlt,x,hx,hd⟩<;>rw [hd] at hi
   · simp only [sF] at hi
     subst hi
     simp (disch:=omega) [-List.reduceReplicate,he]
     generalize hV:mz n.attrs=R
     refine am (fun (k:Nat)=>⟨[(47,.seq 2 (n.attrs.map Attr.v)),(48,.int .i64 n.attrs.length),(49,.int .i64 k)],[]⟩)
      (fun k=>k≤n.attrs.length∧mz (n.attrs.drop k)=R) (fun k=>n.attrs.length - k) [] _ 0 rfl (by simp) (by simp [hV]) ?_
     clear hk hN
     rintro k ⟨hk,hi⟩ N hN
     rcases place n.attrs k hk with ⟨he,hd⟩ | ⟨hlt,x,hx,hd⟩<;>rw [hd] at hi
     · simp only [mz] at hi
       subst hi
       simp (disch:=omega) [-List.reduceReplicate,he]
     · obtain ⟨g1,g2⟩:=h4 x (List.mem_of_getElem? hx)
       simp only [mz] at hi
       replace hi:=hid hi
       simp (disch:=omega) [-List.reduceReplicate,hx]
       refine ac (u4 x.value (by omega)) rfl fun _=>?_
       simp (disch:=omega) [-List.reduceReplicate]
       refine BrK.mk (fun h=>?_) (fun h=>?_)
       · simp (disch:=omega) [-List.reduceReplicate,h]
         have hi:=hi.out
         refine hN.out _<|Nx.mk (k + 1) (by simp) ⟨by omega,?_⟩ (by omega)
         simpa [h] using hi
       · simp (disch:=omega) [-List.reduceReplicate,h]
         have hi:=hi.out
         simp [h] at hi
         simp [←hi]
   · obtain ⟨g1,g2⟩:=h4 x (List.mem_of_getElem? hx)
     simp only [sF] at hi
     replace hi:=hid hi
     simp (disch:=omega) [-List.reduceReplicate,hx]
     refine ac (qN x.name (by omega)) rfl fun _=>?_
     simp (disch:=omega) [-List.reduceReplicate]
     refine BrK.mk (fun h=>?_) (fun h=>?_)
     · have hi:=hi.out
       rw [if_pos h] at hi
       replace hi:=hid hi
       have hg:=mE x.name (n.attrs.take k) 0
       by_cases hh:iD (n.attrs.take k) x.name=true
       · rw [hh] at hg
         obtain ⟨v,hv⟩:=Option.isSome_iff_exists.1 hg
         have hi:=hi.out
         rw [if_pos hh] at hi
         subst hi
         simp (disch:=omega) [-List.reduceReplicate,h,hv]
       · have hh':iD (n.attrs.take k) x.name=false:=by simpa using hh
         rw [hh'] at hg
         have hv:pp (.str x.name) (ji 0 (n.attrs.take k))=none:=by simpa using hg
         have hi:=hi.out
         rw [if_neg hh] at hi
         replace hi:=hid hi
         have hkl:(n.attrs.take k).length=k:=by rw [List.length_take]; omega
         have hp:=mD x.name (.int .i64 k) (n.attrs.take k) 0 hh'
         have hs:=yF x (n.attrs.take k) 0
         rw [hkl,Nat.zero_add,←hp,←cC hx] at hs
         simp (disch:=omega) [-List.reduceReplicate,h,hv,←hs]
         refine hN.out _<|Nx.mk (k + 1) (by simp) ⟨by omega,?_⟩ (by omega)
         rw [cC hx]
         exact hi.out
     · have hi:=hi.out
       rw [if_neg (by simp [h])] at hi
       subst hi
       simp (disch:=omega) [-List.reduceReplicate,h]
 · simp (disch:=omega) [-List.reduceReplicate,hn]
end Go.Abs.F
end
