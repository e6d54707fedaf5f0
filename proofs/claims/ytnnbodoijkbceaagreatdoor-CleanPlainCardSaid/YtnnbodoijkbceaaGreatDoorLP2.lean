/-
  Plain: where a raw element ends. No program in sight. No condition.
  What the program's functions for bytes, tokens and elements answer. No condition.
  What the program's functions for ends of raw elements, attributes' names, elements, kinds answer. No condition.
  What the program's functions for walks through nodes and nodes that may be answer. No condition.
  What the program's functions for nodes that are stable answer. No condition.
  What the program's functions for nodes that are allowed answer. No condition.
  What allow's Odd and Nodes answer, of Holds' answers. No condition.
  Plain: of policies made good and nodes that are stable, the program's way to tell which nodes are allowed is the reference's. No program's run in sight. No condition.
  Plain: nodes that are allowed are so without one of them, if no two texts come to stand side by side. No program's run in sight. No condition.
  Plain: what becomes of nodes that are cleaned; they may be, but for texts side by side; they are as the policy asks. No program's run in sight. No condition.
  Plain: nodes made steady stay as a policy asks; stable ones stay as they are; what is cleaned is allowed, and what is allowed stays so. No program's run in sight. No condition.
  Plain: what is cleaned weighs no more, and has no element, and no attribute, that was not there; texts alone. No program's run in sight. No condition.
  Plain: by a policy that allows texts alone, and unwraps what there is, all texts are left, as one. No program's run in sight. No condition.
  Plain: nodes that are told list by list, each list into a row of the pool, by jobs that wait. No program's run in sight. No condition.
  Plain: nodes made steady, told list by list: what stays in a list, its texts merged, and the kids of its elements. No program's run in sight. No condition.
  Plain: of nodes made steady: the elements of what stays, what fits a raw element, sizes. No program's run in sight. No condition.
  Plain: what is cleaned is no larger than what was. No program's run in sight. No condition.
-/
import Derived.Test.YtnnbodoijkbceaaGreatDoorLF1
import Derived.Lib.IndexMore
import Derived.Test.YtnnbodoijkbceaaGreatDoorLW2
import Derived.Test.YtnnbodoijkbceaaGreatDoorLP3
import Derived.Test.YtnnbodoijkbceaaGreatDoorLF17
import Derived.Test.YtnnbodoijkbceaaGreatDoorLP1
set_option linter.all false
set_option maxHeartbeats 0
set_option maxRecDepth 100000
section
namespace Go.Abs.F
open Go.Proofs
def gm:Str→Str→Bool
 | _,[]=>true
 | [],_::_=>false
 | b::s,c::w=>decide (iS b=c) && gm s w
theorem lr:∀ (w s:Str),s.length < w.length→gm s w=false
 | [],s,h=>by simp at h
 | c::w,[],_=>rfl
 | c::w,b::s,h=>by simp only [gm,lr w s (by simpa using h),Bool.and_false]
theorem yf:∀ (w s:Str),gm s w=decide ((s.take w.length).map iS=w)
 | [],s=>by cases s<;>simp [gm]
 | c::w,[]=>by simp [gm]
 | c::w,b::s=>by simp [gm,yf w s,Bool.decide_and]
theorem u4 {b c:UInt8} (hc:¬(97≤c.toNat∧c.toNat≤122)) (h:iS b=c):b=c:=by
 unfold iS at h
 split at h
 · rename_i hb
   exfalso
   apply hc
   rw [←h,aV (by omega)]
   omega
 · exact h
def j7:Option UInt8→Bool
 | some c=>Ne c
 | none=>false
theorem JZ (nm u:Str):yT nm (60::47::u)=(gm u nm && j7 u[nm.length]?):=by
 have e1:iS 60=60:=by decide
 have e2:iS 47=47:=by decide
 unfold yT
 rw [Nat.add_comm 2 nm.length,yf]
 simp [e1,e2]
 cases u[nm.length]?<;>rfl
theorem Db (nm s:Str) (h:Lib.occAt s [60,47] 0=false):yT nm s=false:=by
 unfold yT
 rw [Bool.and_eq_false_iff]
 left
 rw [decide_eq_false_iff_not]
 intro hh
 rw [Nat.add_comm 2 nm.length] at hh
 match s with
 | []=>simp at hh
 | [b]=>simp at hh
 | b::c::u=>
   simp only [List.take_succ_cons,List.map_cons,List.cons_append,List.nil_append,List.cons.injEq] at hh
   have h1:=u4 (by decide) hh.1
   have h2:=u4 (by decide) hh.2.1
   subst h1 h2
   simp [Lib.occAt] at h
theorem lZ (nm:Str):∀ (m:Nat) (s:Str) (k:Nat),m≤s.length→(∀ j,j < m→Lib.occAt s [60,47] j=false)→ge nm k s=ge nm (k + m) (s.drop m)
 | 0,s,k,_,_=>by simp
 | m + 1,[],k,h,_=>by simp at h
 | m + 1,b::t,k,h,ho=>by
   have h0:=Db nm (b::t) (ho 0 (by omega))
   simp only [ge,h0,Bool.false_eq_true,if_false,List.drop_succ_cons]
   rw [lZ nm m t (k + 1) (by simpa using h) (fun j hj=>by have:=ho (j + 1) (by omega); simpa [Lib.occAt] using this)]
   congr 1
   omega
theorem Da (nm s:Str) (k:Nat) (h:∀ j,j≤s.length→Lib.occAt s [60,47] j=false):ge nm k s=-1:=by
 rw [lZ nm s.length s k (Nat.le_refl _) (fun j hj=>h j (by omega)),List.drop_length]
 rfl
theorem He (nm u:Str) (k:Nat):ge nm k (60::47::u)=if (gm u nm && j7 u[nm.length]?)=true then (k:Int) else ge nm (k + 2) u:=by
 have h0:yT nm (47::u)=false:=Db nm _ (by simp [Lib.occAt,List.isPrefixOf])
 rw [ge,JZ,ge,h0]
 rfl
theorem Jg {s:Str} {i:Nat} (h:Lib.occAt s [60,47] i=true):∃ u,s.drop i=60::47::u:=by
 unfold Lib.occAt at h
 match hs:s.drop i with
 | []=>rw [hs] at h; simp at h
 | [b]=>rw [hs] at h; simp at h
 | b::c::u=>
   rw [hs] at h
   simp at h
   exact ⟨u,by rw [←h.1,←h.2]⟩
theorem uJ (w:Str) (hw:w≠[]):∀ s:Str,uK w s=decide (0≤Lib.index s w)
 | []=>by
   cases w with
   | nil=>exact (hw rfl).elim
   | cons c w=>simp [uK,iy,Lib.index]
 | b::t=>by
   have ih:=uJ w hw t
   have hge:=Lib.index_ge t w
   have e:Lib.index (b::t) w=if w.isPrefixOf (b::t) then 0 else if Lib.index t w == -1 then -1 else Lib.index t w + 1:=rfl
   have hb:iy (b::t) w=w.isPrefixOf (b::t):=by
    rw [Bool.eq_iff_iff]
    simp only [iy,Bool.and_eq_true,decide_eq_true_eq,List.isPrefixOf_iff_prefix]
    constructor
    · rintro ⟨h1,h2⟩; rw [←h2]; exact List.take_prefix _ _
    · intro h; exact ⟨h.length_le,(List.prefix_iff_eq_take.1 h).symm⟩
   rw [Bool.eq_iff_iff]
   simp only [uK,ih,hb,Bool.or_eq_true,decide_eq_true_eq]
   rw [e]
   by_cases h:w.isPrefixOf (b::t)=true
   · simp [h]
   · rw [if_neg h]
     by_cases h1:Lib.index t w=-1
     · simp [h,h1]
     · rw [if_neg (by simpa using h1)]
       have:0≤Lib.index t w:=by omega
       simp [this]; omega
end Go.Abs.F
end
section
namespace Go.Abs.F
open Go.Proofs
attribute [-simp] getElem?_pos Option.not_isSome List.map_map
theorem CX (b:UInt8):Fn Tryz.prog rY [.int .u8 b.toNat] (.int .u8 (iS b).toNat):=by
 refine Fn.of_image mixed sb r9 rfl fun ho=>?_
 unfold l9
 simp only [oks,ok,and_true] at ho
 have hb:=b.toNat_lt
 by_cases h:65≤b.toNat∧b.toNat≤90
 · have e:(iS b).toNat=b.toNat + 32:=by simp [iS,h,aV (show b.toNat + 32 < 256 by omega)]
   rw [e]
   simp (disch:=omega) [-List.reduceReplicate,h]
   repeat' (first | (refine BrKd.mk (fun h=>?_) (fun h=>?_)<;>simp (disch:=omega) [*]) | (refine BrK.mk (fun h=>?_) (fun h=>?_)<;>simp (disch:=omega) [*]))
   all_goals omega
 · have e:iS b=b:=by simp only [iS,if_neg h]
   rw [e]
   simp (disch:=omega) [-List.reduceReplicate]
   repeat' (first | (refine BrKd.mk (fun h=>?_) (fun h=>?_)<;>simp (disch:=omega) [*]) | (refine BrK.mk (fun h=>?_) (fun h=>?_)<;>simp (disch:=omega) [*]))
   all_goals omega
theorem AD (s w:Str):Fn Tryz.prog pF [.str s,.str w] (.bool (gm s w)):=by
 refine Fn.of_image mixed pZ pQ rfl fun ho=>?_
 unfold kf
 simp only [oks,ok,and_true] at ho
 obtain ⟨ho1,ho2⟩:=ho
 generalize hr:gm s w=r
 simp (disch:=omega) [-List.reduceReplicate]
 refine BrKd.mk (fun h=>?_) (fun h=>?_)
 · simp (disch:=omega) [-List.reduceReplicate,h]
   rw [←hr,lr w s (by omega)]
 · simp (disch:=omega) [-List.reduceReplicate,h]
   refine aI (fun k:Nat=>⟨[(0,.str s),(1,.str w),(12,.int .i64 w.length),(13,.int .i64 k)],[]⟩) (fun k=>k≤w.length∧gm (s.drop k) (w.drop k)=r) (fun k=>w.length - k) [] _ 0 rfl (by simp) (by simp [hr]) ?_
   rintro k ⟨hk,hi⟩ N hN
   rcases place w k hk with ⟨he,hd⟩ | ⟨hlt,x,hx,hd⟩
   · rw [hd] at hi
     simp (disch:=omega) [-List.reduceReplicate,he]
     cases hs:s.drop k<;>simpa [hs,gm] using hi
   · obtain ⟨y,hy⟩:=fw (l:=s) (k:=k) (by omega)
     have hds:s.drop k=y::s.drop (k + 1):=by
      rw [List.drop_eq_getElem_cons (by omega)]
      have:s[k]?=some (s[k]'(by omega)):=List.getElem?_eq_getElem _
      rw [this] at hy
      cases hy
      rfl
     rw [hd,hds] at hi
     simp only [gm] at hi
     replace hi:=hid hi
     simp (disch:=omega) [-List.reduceReplicate,hx,hy]
     refine bw (CX y) rfl ?_
     simp (disch:=omega) [-List.reduceReplicate,hx,hy]
     refine BrKd.mk (fun h=>?_) (fun h=>?_)
     · simp (disch:=omega) [-List.reduceReplicate,h]
       have hi:=hi.out
       have:iS y=x:=by apply UInt8.toNat_inj.1; omega
       refine hN.out _<|Nx.mk (k + 1) (by simp) ⟨by omega,by simpa [this] using hi⟩ (by omega)
     · have:¬iS y=x:=by intro h'; rw [h'] at h; simp at h
       simp (disch:=omega) [-List.reduceReplicate,h]
       have hi:=hi.out
       simpa [this] using hi
theorem xw (b:UInt8):Fn Tryz.prog nk [.int .i32 b.toNat] (.bool (Kp b)):=by
 refine Fn.of_image mixed np nn rfl fun ho=>?_
 unfold jb
 simp only [oks,ok,and_true] at ho
 have hb:=b.toNat_lt
 simp (disch:=omega) [-List.reduceReplicate,Kp]
 repeat' (first | (refine BrKd.mk (fun h=>?_) (fun h=>?_)<;>simp (disch:=omega) [*]) | (refine BrK.mk (fun h=>?_) (fun h=>?_)<;>simp (disch:=omega) [*]))
theorem u9 (s:Str) (hs:s.length≤1000000000):Fn Tryz.prog Ji [.str s] (.bool (right s)):=by
 refine Fn.of_image mixed JK JF rfl fun ho=>?_
 unfold Dh
 simp only [oks,ok,and_true] at ho
 clear ho
 rw [Gi]
 simp (disch:=omega) [-List.reduceReplicate,isU]
 refine ah (oH s (by omega)) rfl fun _=>?_
 simp (disch:=omega) [-List.reduceReplicate]
 refine BrK.mk (fun h=>?_) (fun h=>?_)
 · simp (disch:=omega) [-List.reduceReplicate,h]
   generalize hr:((cK s).all fun r=>!decide (r=0) && !decide (r=13))=R
   refine aI (fun k:Nat=>⟨[(9,.ref 0 0)],[some (.itr s k)]⟩) (fun k=>k≤s.length∧((cK (s.drop k)).all fun r=>!decide (r=0) && !decide (r=13))=R) (fun k=>s.length - k) [] _ 0 rfl (by simp) (by simp [hr]) ?_
   rintro k ⟨hk,hi⟩ N hN
   by_cases hlt:k < s.length
   · have hdo:=J6 s k hlt
     obtain ⟨b,t,hd⟩:∃ b t,s.drop k=b::t:=by
      cases hd:s.drop k with
      | nil=>have:=congrArg List.length hd; simp at this; omega
      | cons b t=>exact ⟨b,t,rfl⟩
     rw [hd] at hdo hi
     rw [dW,←hdo,←hd,List.drop_drop] at hi
     have hor:=fq (b::t)
     have hlen:=hor.2.2.1 (by simp)
     rw [←hdo] at hor hlen
     have hlen2:(b::t).length=s.length - k:=by rw [←hd]; simp
     simp only [List.all_cons] at hi
     replace hi:=hid hi
     clear hdo
     simp (disch:=omega) [-List.reduceReplicate,hlt]
     repeat' (first | (refine BrKd.mk (fun h=>?_) (fun h=>?_)<;>simp (disch:=omega) [*]) | (refine BrK.mk (fun h=>?_) (fun h=>?_)<;>simp (disch:=omega) [*]))
     all_goals first
      | omega
      | (refine hN.out _<|Nx.mk (k + (qj s k).2) (by simp [*]) ⟨by omega,?_⟩ (by omega); have hi:=hi.out; simpa (disch:=omega) [*] using hi)
      | (have hi:=hi.out; simpa (disch:=omega) [*] using hi)
   · have hkl:k=s.length:=by omega
     subst hkl
     simp (disch:=omega) [-List.reduceReplicate]
     simpa [cK,fo] using hi
 · simp (disch:=omega) [-List.reduceReplicate,h]
theorem AE (s nm:Str) (hs:s.length≤1000000000) (hn:nm.length≤1000000):Fn Tryz.prog pI [.str s,.str nm] (.int .i64 (Nd s nm)):=by
 refine Fn.of_image mixed p3 pT rfl fun ho=>?_
 unfold kg
 simp only [oks,ok,and_true] at ho
 clear ho
 simp (disch:=omega) [-List.reduceReplicate]
 generalize hr:Nd s nm=r
 refine aI (fun k:Nat=>⟨[(0,.str s),(1,.str nm),(5,.int .i64 k)],[]⟩) (fun k=>k≤s.length∧ge nm k (s.drop k)=r) (fun k=>s.length - k) [] _ 0 rfl (by simp) (by simp [←hr,Nd]) ?_
 rintro k ⟨hk,hi⟩ N hN
 have tk:∀ i,(s.drop i).take (s.length - i)=s.drop i:=fun i=>List.take_of_length_le (by simp)
 simp (disch:=omega) [-List.reduceReplicate,hk,tk]
 have hsl:(s.drop k).length < 4294967281:=by simp; omega
 refine ah (kA (s.drop k) [60,47] hsl) rfl fun _=>?_
 rcases Lib.index_spec (s.drop k) [60,47] with ⟨e,hno⟩ | ⟨j,e,hj,hocc,hno⟩
 · rw [Da nm _ _ hno] at hi
   simp (disch:=omega) [-List.reduceReplicate,e,hi]
 · obtain ⟨u,hu⟩:=Jg hocc
   have hu':s.drop (k + j)=60::47::u:=by rw [←List.drop_drop]; exact hu
   have hu2:s.drop (k + j + 2)=u:=by rw [←List.drop_drop,hu']; rfl
   have hlen:u.length + 2=s.length - (k + j):=by have:=congrArg List.length hu'; simpa using this.symm
   rw [lZ nm j _ k hj hno,hu,He] at hi
   have no:(gm u nm && j7 u[nm.length]?)=false→ge nm (k + j + 2) (s.drop (k + j + 2))=r:=fun h=>by rw [if_neg (by rw [h]; exact Bool.false_ne_true)] at hi; rw [hu2]; exact hi
   have yes:(gm u nm && j7 u[nm.length]?)=true→r=(k:Int) + j:=fun h=>by rw [if_pos h] at hi; rw [←hi]; simp
   replace no:=hid no
   replace yes:=hid yes
   clear hi
   have hul:s.length - (k + j + 2)=u.length:=by omega
   have hc1:((k:Int) + (j:Int) + 2).toNat=k + j + 2:=by omega
   have hc2:(k:Int) + (j:Int) + 2≤s.length:=by omega
   have hc3:k + j + 2≤s.length:=by omega
   simp (disch:=omega) [-List.reduceReplicate,e,hc1,hc2,hc3,hu2,tk,hul]
   refine BrKd.mk (fun h=>?_) (fun h=>?_)
   · simp (disch:=omega) [-List.reduceReplicate,h]
     refine hN.out _<|Nx.mk (k + j + 2) (by simp) ⟨by omega,no.out ?_⟩ (by omega)
     have:u[nm.length]?=none:=by rw [List.getElem?_eq_none_iff]; omega
     simp [this,j7]
   · simp (disch:=omega) [-List.reduceReplicate,h]
     refine ah (AD u nm) rfl fun _=>?_
     simp (disch:=omega) [-List.reduceReplicate,h]
     refine BrK.mk (fun h2=>?_) (fun h2=>?_)
     · simp (disch:=omega) [-List.reduceReplicate,h2]
       have hlt:nm.length < u.length:=by
        by_cases h3:u.length < nm.length
        · rw [lr nm u h3] at h2; cases h2
        · omega
       obtain ⟨c,hc⟩:=fw (l:=u) (k:=nm.length) hlt
       have hcb:=c.toNat_lt
       simp (disch:=omega) [-List.reduceReplicate,hc]
       refine ah (xw c) rfl fun _=>?_
       simp (disch:=omega) [-List.reduceReplicate]
       repeat' (first
        | (refine BrKd.mk (fun h=>?_) (fun h=>?_)<;>simp (disch:=omega) [*])
        | (refine BrK.mk (fun h=>?_) (fun h=>?_)<;>simp (disch:=omega) [*]))
       all_goals first
        | (refine hN.out _<|Nx.mk (k + j + 2) (by simp) ⟨by omega,no.out ?_⟩ (by omega); simp_all [j7,Ne]; done)
        | (rw [yes.out ?_]; simp_all [j7,Ne]; done)
     · simp (disch:=omega) [-List.reduceReplicate,h2]
       refine hN.out _<|Nx.mk (k + j + 2) (by simp) ⟨by omega,no.out ?_⟩ (by omega)
       simp [h2]
theorem rk (s:Str) (hs:s.length≤1000000000):Fn Tryz.prog qY [.str s] (.bool (bR s)):=by
 refine Fn.of_image mixed ri rf rfl fun ho=>?_
 unfold jE
 simp only [oks,ok,and_true] at ho
 clear ho
 simp (disch:=omega) [-List.reduceReplicate]
 generalize hr:bR s=r
 refine aI (fun k:Nat=>⟨[(0,.str s),(6,.int .i64 s.length),(7,.int .i64 k)],[]⟩) (fun k=>k≤s.length∧((s.drop k).all (fun b=>!dE b) && (decide (cq s=s) && decide (0 < s.length)))=r) (fun k=>s.length - k) [] _ 0 rfl (by simp) (by simp [←hr,bR]) ?_
 rintro k ⟨hk,hi⟩ N hN
 rcases place s k hk with ⟨he,hd⟩ | ⟨hlt,x,hx,hd⟩<;>rw [hd] at hi<;>replace hi:=hid hi
 · simp (disch:=omega) [-List.reduceReplicate,he]
   refine BrKd.mk (fun h=>?_) (fun h=>?_)
   · have hp:s=[]:=by simpa using h
     subst hp
     simp (disch:=omega) [-List.reduceReplicate]
     have hi:=hi.out
     simpa using hi
   · simp (disch:=omega) [-List.reduceReplicate,h]
     refine ah (u9 s hs) rfl fun _=>?_
     have hi:=hi.out
     have hp:0 < s.length:=List.length_pos_iff.2 (by simpa using h)
     simp (disch:=omega) [-List.reduceReplicate,right]
     simpa [hp] using hi
 · have hb:=x.toNat_lt
   simp only [List.all_cons] at hi
   simp (disch:=omega) [-List.reduceReplicate,hx]
   repeat' (first
    | (refine BrKd.mk (fun h=>?_) (fun h=>?_)<;>simp (disch:=omega) [*])
    | (refine BrK.mk (fun h=>?_) (fun h=>?_)<;>simp (disch:=omega) [*]))
   all_goals first
    | omega
    | (refine hN.out _<|Nx.mk (k + 1) (by simp [*]) ⟨by omega,?_⟩ (by omega); have hi:=hi.out; simpa (disch:=omega) [dE,decide_eq_true,decide_eq_false, *] using hi)
    | (have hi:=hi.out; simpa (disch:=omega) [dE,decide_eq_true,decide_eq_false, *] using hi)
def jx:Nat→List Attr→List (V × V)
 | _,[]=>[]
 | i,a::l=>(.str a.name,.int .i64 i)::jx (i + 1) l
theorem tD (s t:Str):eqK (.str s) (.str t)=decide (s=t):=by simp [eqK,cl,td,eqC]
theorem mC (s:Str):∀ (l:List Attr) (i:Nat),(oo (.str s) (jx i l)).isSome=dY l s
 | [],i=>rfl
 | a::l,i=>by
   simp only [jx,oo,tD,decide_eq_true_eq,dY]
   by_cases h:s=a.name
   · rw [if_pos h,if_pos h.symm]; rfl
   · rw [if_neg h,if_neg (fun e=>h e.symm)]; exact mC s l (i + 1)
theorem mA (s:Str) (u:V):∀ (l:List Attr) (i:Nat),dY l s=false→kM (.str s) u (jx i l)=jx i l++[(.str s,u)]
 | [],i,_=>rfl
 | a::l,i,h=>by
   simp only [dY] at h
   have h':¬a.name=s:=by intro e; rw [if_pos e] at h; cases h
   rw [if_neg h'] at h
   simp only [jx,kM,tD,decide_eq_true_eq]
   rw [if_neg (fun e=>h' e.symm),mA s u l (i + 1) h]
   rfl
theorem yS (a:Attr):∀ (l:List Attr) (i:Nat),jx i (l++[a])=jx i l++[(.str a.name,.int .i64 (i + l.length:Nat))]
 | [],i=>by simp [jx]
 | b::l,i=>by
   simp only [List.cons_append,jx,yS a l (i + 1),List.length_cons]
   congr 5
   omega
abbrev ktS1:KT:=⟨false,[.s]⟩
theorem xF (n:Node) (hf:fine1 n) (ht:n.text=[]):Fn Tryz.prog wi [.sptr n.v 0] (.int .i64 (jy n)):=by
 refine Fn.of_image mixed xn wQ rfl fun ho=>?_
 unfold nM
 simp only [oks,ok,and_true] at ho
 clear ho
 obtain ⟨h1,h2,h3,h4⟩:=hf
 simp (disch:=omega) [-List.reduceReplicate,jy,ht]
 refine ah (lV n.name) rfl fun _=>?_
 simp (disch:=omega) [-List.reduceReplicate]
 refine BrK.mk (fun hn=>?_) (fun hn=>?_)
 · simp (disch:=omega) [-List.reduceReplicate,hn]
   generalize hD:ii [] n.attrs=D
   have hDc:=vh n.attrs []
   rw [hD] at hDc
   refine aI (fun (k:Nat)=>⟨[(0,.sptr n.v 0),(3,.ref 0 0),(20,.seq 2 (n.attrs.map Attr.v)),(21,.int .i64 n.attrs.length),(22,.int .i64 k)],[some (.mp ktS1 (jx 0 (n.attrs.take k)))]⟩)
    (fun k=>k≤n.attrs.length∧ii (n.attrs.take k) (n.attrs.drop k)=D) (fun k=>n.attrs.length - k) [] _ 0 rfl (by simp [ht,jx]) (by simp [hD]) ?_
   rintro k ⟨hk,hi⟩ N hN
   rcases place n.attrs k hk with ⟨he,hd⟩ | ⟨hlt,x,hx,hd⟩<;>rw [hd] at hi
   · simp only [ii] at hi
     subst hi
     simp (disch:=omega) [-List.reduceReplicate,he]
     generalize hV:bS n.attrs=R
     refine aI (fun (k:Nat)=>⟨[(47,.seq 2 (n.attrs.map Attr.v)),(48,.int .i64 n.attrs.length),(49,.int .i64 k)],[]⟩)
      (fun k=>k≤n.attrs.length∧bS (n.attrs.drop k)=R) (fun k=>n.attrs.length - k) [] _ 0 rfl (by simp) (by simp [hV]) ?_
     clear hk hN
     rintro k ⟨hk,hi⟩ N hN
     rcases place n.attrs k hk with ⟨he,hd⟩ | ⟨hlt,x,hx,hd⟩<;>rw [hd] at hi
     · simp only [bS] at hi
       subst hi
       simp (disch:=omega) [-List.reduceReplicate,he]
     · obtain ⟨g1,g2⟩:=h4 x (List.mem_of_getElem? hx)
       simp only [bS] at hi
       replace hi:=hid hi
       simp (disch:=omega) [-List.reduceReplicate,hx]
       refine ah (u9 x.value (by omega)) rfl fun _=>?_
       simp (disch:=omega) [-List.reduceReplicate]
       refine BrK.mk (fun h=>?_) (fun h=>?_)
       · simp (disch:=omega) [-List.reduceReplicate,h]
         have hi:=hi.out
         refine hN.out _<|Nx.mk (k + 1) (by simp) ⟨by omega,?_⟩ (by omega)
         simpa [h] using hi
       · simp (disch:=omega) [-List.reduceReplicate,h]
         have hi:=hi.out
         simp [h] at hi
         simp [←hi]
   · obtain ⟨g1,g2⟩:=h4 x (List.mem_of_getElem? hx)
     simp only [ii] at hi
     replace hi:=hid hi
     simp (disch:=omega) [-List.reduceReplicate,hx]
     refine ah (rk x.name (by omega)) rfl fun _=>?_
     simp (disch:=omega) [-List.reduceReplicate]
     refine BrK.mk (fun h=>?_) (fun h=>?_)
     · have hi:=hi.out
       rw [if_pos h] at hi
       replace hi:=hid hi
       have hg:=mC x.name (n.attrs.take k) 0
       by_cases hh:dY (n.attrs.take k) x.name=true
       · rw [hh] at hg
         obtain ⟨v,hv⟩:=Option.isSome_iff_exists.1 hg
         have hi:=hi.out
         rw [if_pos hh] at hi
         subst hi
         simp (disch:=omega) [-List.reduceReplicate,h,hv]
       · have hh':dY (n.attrs.take k) x.name=false:=by simpa using hh
         rw [hh'] at hg
         have hv:oo (.str x.name) (jx 0 (n.attrs.take k))=none:=by simpa using hg
         have hi:=hi.out
         rw [if_neg hh] at hi
         replace hi:=hid hi
         have hkl:(n.attrs.take k).length=k:=by rw [List.length_take]; omega
         have hp:=mA x.name (.int .i64 k) (n.attrs.take k) 0 hh'
         have hs:=yS x (n.attrs.take k) 0
         rw [hkl,Nat.zero_add,←hp,←fk hx] at hs
         simp (disch:=omega) [-List.reduceReplicate,h,hv,←hs]
         refine hN.out _<|Nx.mk (k + 1) (by simp) ⟨by omega,?_⟩ (by omega)
         rw [fk hx]
         exact hi.out
     · have hi:=hi.out
       rw [if_neg (by simp [h])] at hi
       subst hi
       simp (disch:=omega) [-List.reduceReplicate,h]
 · simp (disch:=omega) [-List.reduceReplicate,hn]
theorem C4 (n:Node) (b:Bool) (hf:fine1 n):Fn Tryz.prog BW [.sptr n.v 0,.bool b] (.int .i64 (eE n b)):=by
 refine Fn.of_image mixed CF Co rfl fun ho=>?_
 unfold sy
 simp only [oks,ok,and_true] at ho
 clear ho
 have hla:0 < n.attrs.length↔¬n.attrs=[]:=by rw [List.length_pos_iff]
 have hlk:0 < n.kids.length↔¬n.kids=[]:=by rw [List.length_pos_iff]
 have hf2:=hf.2.1
 by_cases h1:n.kind=1
 · by_cases ht:n.text=[]
   · simp (disch:=omega) [-List.reduceReplicate,eE,h1,ht]
     refine ah (by simpa [ht,h1] using xF n hf ht) rfl fun _=>?_
     simp (disch:=omega) [-List.reduceReplicate]
   · simp (disch:=omega) [-List.reduceReplicate,eE,h1,ht,jy]
 · have hU:=u9 n.text (by omega)
   simp only [eE,if_neg h1]
   generalize right n.text=R at hU ⊢
   simp (disch:=omega) [-List.reduceReplicate,h1]
   cases R<;>repeat' (first
    | (refine BrKd.mk (fun h=>?_) (fun h=>?_)<;>simp (disch:=omega) [hla,hlk, *])
    | (refine BrK.mk (fun h=>?_) (fun h=>?_)<;>simp (disch:=omega) [hla,hlk, *])
    | (refine ah hU rfl (fun _=>?_)<;>simp (disch:=omega) [hla,hlk, *]))
theorem EJ (t:List Node × Nat→Bool):∀ (l:List Node) (more:List (List Node × Nat)) (deep:Nat),ai l + deep < 1000→
 FnH Tryz.prog jT [2] [.seq 5 (l.map Node.v),.int .i64 deep,.ref 0 0] [some (.gh (fy itV t (itL l l 0++more)))] (.bool ((itL l l 0).all t)) [some (.gh (if (itL l l 0).all t then fy itV t more else []))]:=by
 have key:∀ l:List Node,(∀ n∈l,∀ (more:List (List Node × Nat)) (deep:Nat),ai n.kids + deep < 1000→
  FnH Tryz.prog jT [2] [.seq 5 (n.kids.map Node.v),.int .i64 deep,.ref 0 0] [some (.gh (fy itV t (itL n.kids n.kids 0++more)))] (.bool ((itL n.kids n.kids 0).all t)) [some (.gh (if (itL n.kids n.kids 0).all t then fy itV t more else []))])→
  ∀ (more:List (List Node × Nat)) (deep:Nat),ai l + deep < 1000→
  FnH Tryz.prog jT [2] [.seq 5 (l.map Node.v),.int .i64 deep,.ref 0 0] [some (.gh (fy itV t (itL l l 0++more)))] (.bool ((itL l l 0).all t)) [some (.gh (if (itL l l 0).all t then fy itV t more else []))]:=by
  intro l hrec more deep hdeep
  refine FnH.of_image mixed Et Em rfl fun ho hh=>?_
  unfold vv
  have hlen:l.length≤140737488355328:=by have:=ho.1.1; simpa using this
  clear ho hh
  have hd0:¬deep=1000:=by omega
  simp (disch:=omega) [-List.reduceReplicate,hd0]
  generalize hR:(itL l l 0).all t=R
  refine aI (fun (k:Nat)=>⟨[(0,.seq 5 (l.map Node.v)),(1,.int .i64 deep),(2,.ref 0 0),(14,.int .i64 l.length),(15,.int .i64 k)],[some (.gh (fy itV t (itL l (l.drop k) k++more)))]⟩)
   (fun k=>k≤l.length∧(itL l (l.drop k) k).all t=R) (fun k=>l.length - k) [] _ 0 rfl (by simp) (by simp [hR]) ?_
  rintro k ⟨hk,hi⟩ N hN
  rcases place l k hk with ⟨he,hd⟩ | ⟨hlt,x,hx,hd⟩<;>rw [hd] at hi
  · simp only [itL,List.all_nil] at hi
    subst hi
    have e:l.drop k++[]=[]:=by simp [hd]
    simp (disch:=omega) [-List.reduceReplicate,he,itL]
  · have hxm:=List.mem_of_getElem? hx
    have hcn:=mI hxm
    have hrx:=hrec x hxm (itL l (l.drop (k + 1)) (k + 1)++more) (deep + 1) (by omega)
    simp only [itL,List.all_cons,List.all_append,zS] at hi
    replace hi:=hid hi
    rw [hd]
    simp only [itL,zS,List.cons_append,List.append_assoc]
    by_cases ht:t (l,k)=true
    · rw [fy,if_pos ht]
      generalize hG:fy itV t (itL x.kids x.kids 0++(itL l (l.drop (k + 1)) (k + 1)++more))=G at hrx ⊢
      simp (disch:=omega) [-List.reduceReplicate,itV,hx]
      rw [show ((deep + 1:Nat):Int)=(deep:Int) + 1 by omega] at hrx
      refine aS [2] 1 [0] (by simp) (by simp) (by simp) (by simp) hrx (by simp) fun _ _=>?_
      by_cases ha:(itL x.kids x.kids 0).all t=true
      · rw [ha]
        simp (disch:=omega) [-List.reduceReplicate,hx]
        have hi:=hi.out
        rw [ht,ha] at hi
        refine hN.out _<|Nx.mk (k + 1) (by simp) ⟨by omega,by simpa using hi⟩ (by omega)
      · have ha':(itL x.kids x.kids 0).all t=false:=by simpa using ha
        have hi:=hi.out
        rw [ht,ha'] at hi
        simp only [Bool.true_and,Bool.false_and] at hi
        subst hi
        rw [ha']
        simp (disch:=omega) [-List.reduceReplicate,hx]
    · rw [fy,if_neg ht]
      have hi:=hi.out
      have ht':t (l,k)=false:=by simpa using ht
      rw [ht'] at hi
      simp only [Bool.false_and] at hi
      subst hi
      simp (disch:=omega) [-List.reduceReplicate,itV]
 have all:∀ l:List Node,∀ n∈l,∀ (more:List (List Node × Nat)) (deep:Nat),ai n.kids + deep < 1000→
  FnH Tryz.prog jT [2] [.seq 5 (n.kids.map Node.v),.int .i64 deep,.ref 0 0] [some (.gh (fy itV t (itL n.kids n.kids 0++more)))] (.bool ((itL n.kids n.kids 0).all t)) [some (.gh (if (itL n.kids n.kids 0).all t then fy itV t more else []))]:=by
  refine ay (fun x hx=>by cases hx) ?_
  intro n l h1 h2 x hx
  rcases List.mem_cons.1 hx with rfl | hx
  · exact key _ h1
  · exact h2 x hx
 exact fun l=>key l (all l)
theorem AJ (t:List Node × Nat→Bool) (l:List Node) (hc:ai l < 1000):
 FnH Tryz.prog jU [0] [.ref 0 0,.ptr 1 0] [some (.gh (fy itV t (itL l l 0))),some (.box [.seq 5 (l.map Node.v)])] (.tup []) [some (.gh [])]:=by
 refine FnH.of_image mixed p6 Ae rfl fun ho hh=>?_
 unfold qy
 clear ho hh
 have hw:=EJ t l [] 0 (by omega)
 rw [List.append_nil] at hw
 have e:(if (itL l l 0).all t=true then fy itV t [] else [])=[]:=by split<;>rfl
 rw [e] at hw
 generalize fy itV t (itL l l 0)=G at hw ⊢
 simp (disch:=omega) [-List.reduceReplicate]
 refine aS [2] 1 [0] (by simp) (by simp) (by simp) (by simp) hw (by simp) fun _ _=>?_
 simp (disch:=omega) [-List.reduceReplicate]
theorem EK (l:List Node):FnH Tryz.prog D6 [] [.seq 5 (l.map Node.v)] [] (.fn (.func jU) [] [.ptr 0 0]) [some (.box [.seq 5 (l.map Node.v)])]:=by
 refine FnH.of_image mixed Eu En rfl fun ho hh=>?_
 unfold vw
 clear ho hh
 simp (disch:=omega) [-List.reduceReplicate]
theorem vI {st:Nat→St} {stx:St} {ks:List Nat} {i:Nat} {b:Bool} {τ:St} (hb:b=true) (h:τ.nrm ks=st (i + 1)):Du st stx ks i b .norm τ:=⟨hb,[],τ,rfl,h⟩
theorem y6 {st:Nat→St} {stx:St} {ks:List Nat} {i:Nat} {b:Bool} {τ:St} (hb:b=false) (h:τ.nrm ks=stx):Du st stx ks i b .ret τ:=⟨hb,[],τ,rfl,h⟩
def Jq (x:List Node × Nat):Bool:=decide (ju x=0)
theorem G1 (l:List Node) (hf:an fine1 l) (hc:ai l < 1000):Fn Tryz.prog Gt [.seq 5 (l.map Node.v)] (.int .i64 (may l)):=by
 refine FnE.fn ?_
 refine FnE.of_rng mixed GV GR rfl (full:=fy itV Jq (itL l l 0)) (st:=fun _=>⟨[(2,.ptr 0 0)],[some (.box [.int .i64 0])]⟩) (stx:=⟨[(2,.ptr 0 0)],[some (.box [.int .i64 (may l)])]⟩) ?_ ?_ ?_ ?_ ?_ ?_
 · intro i us b h
   obtain ⟨x,h1,h2,h3,h4⟩:=vi _ _ _ _ _ _ h
   simp only [itV,V.tup.injEq] at h2
   subst h2
   rfl
 · exact fun i v h=>yU _ _ _ _ _ h
 · intro ho
   clear ho
   unfold jD
   simp only [y5]
   simp (disch:=omega) [-List.reduceReplicate,ent]
   refine aS [] 0 [] (by simp) (by simp) (by simp) (by simp) (EK l) (by simp) fun _ _=>?_
   simp (disch:=omega) [-List.reduceReplicate,KN]
   exact ⟨jU,1,⟨rfl,rfl⟩,_,rfl,_,by simp,rfl,enters_of p6 (by kernel_rfl) rfl,AJ Jq l hc⟩
 · intro i us b h
   obtain ⟨x,h1,h2,h3,h4⟩:=vi _ _ _ _ _ _ h
   simp only [itV,V.tup.injEq] at h2
   subst h2
   unfold jD
   obtain ⟨n,hn,hfn,hrl⟩:=MZ (m:=1000) l l 0 rfl hf (by omega) x (List.mem_of_getElem? h1)
   obtain ⟨row,j⟩:=x
   simp only at hn hrl
   have hj:j < row.length:=(List.getElem?_eq_some_iff.1 hn).1
   have herr:ju (row,j)=eE n (fg row j):=by simp [ju,hn]
   have hmay:¬eE n (fg row j)=0→may l=eE n (fg row j):=by
    intro hx
    rw [←herr] at hx ⊢
    have:=yM _ _ _ h1 h4 hx
    rw [u5 l l 0 rfl] at this
    simpa [may,fg] using this
   have hb:b=decide (eE n (fg row j)=0):=by rw [h3,Jq,herr]
   have hck:=C4 n (fg row j) hfn
   clear h h3 h4 herr h1
   by_cases hj0:0 < j
   · obtain ⟨m,hm⟩:=fw (l:=row) (k:=j - 1) (by omega)
     have e:((j:Int) - 1).toNat=j - 1:=by omega
     have hpv:fg row j=decide (m.kind=2):=by simp [fg,hj0,hm]
     generalize fg row j=pv at *
     simp (disch:=omega) [-List.reduceReplicate,tI,hj0,e,hm,hn,←hpv]
     refine ah (by simpa using hck) rfl fun _=>?_
     simp (disch:=omega) [-List.reduceReplicate]
     refine BrKd.mk (fun h=>?_) (fun h=>?_)
     · simp (disch:=omega) [-List.reduceReplicate,h]
       exact vI (by rw [hb,h]; rfl) rfl
     · simp (disch:=omega) [-List.reduceReplicate,h]
       exact y6 (by rw [hb]; simp [h]) (by rw [hmay h]; rfl)
   · have hpv:fg row j=false:=by simp [fg,hj0]
     rw [hpv] at hck hb hmay
     simp (disch:=omega) [-List.reduceReplicate,tI,hj0,hn]
     refine ah (by simpa using hck) rfl fun _=>?_
     simp (disch:=omega) [-List.reduceReplicate]
     refine BrKd.mk (fun h=>?_) (fun h=>?_)
     · simp (disch:=omega) [-List.reduceReplicate,h]
       exact vI (by rw [hb,h]; rfl) rfl
     · simp (disch:=omega) [-List.reduceReplicate,h]
       exact y6 (by rw [hb]; simp [h]) (by rw [hmay h]; rfl)
 · intro h
   unfold jD
   have h0:may l=0:=by
    have:=(De itV Jq (itL l l 0)).1 h
    rw [show (itL l l 0).all Jq=(itL l l 0).all fun x=>decide (ju x=0) from rfl,u6,u5 l l 0 rfl] at this
    simpa [may,fg] using this
   rw [h0]
   simp only [y5]
   simp (disch:=omega) [-List.reduceReplicate]
   exact ⟨by simp (disch:=omega) [-List.reduceReplicate],rfl⟩
 · intro h
   exact ⟨by simp (disch:=omega) [-List.reduceReplicate,jD],rfl⟩
attribute [simp] B4 q0 KB KC Bg N7 DJ aM
def zo (l:List Str):V:=.seq 1 (l.map .str)
def clM:List (V × V):=[(.str [112],zo (dm [112])),(.str [108,105],zo (dm [108,105])),(.str [100,116],zo (dm [100,116])),(.str [100,100],zo (dm [100,100])),(.str [111,112,116,105,111,110],zo (dm [111,112,116,105,111,110])),(.str [116,100],zo (dm [116,100])),(.str [116,114],zo (dm [116,114]))]
theorem ta:FnH Tryz.prog ku [] [] [] (.ref 0 0) [some (.mp ktS1 clM)]:=by
 refine FnH.of_image mixed ky kx rfl fun ho hh=>?_
 unfold gg
 clear ho hh
 simp (disch:=omega) [-List.reduceReplicate,kM,tD,bm,kOf,aJ,aU,fe]
 rfl
theorem Nl (o:Str):oo (.str o) clM=if dm o=[] then none else some (zo (dm o)):=by
 simp only [clM,oo,tD,decide_eq_true_eq]
 by_cases h1:o=[112]
 · subst h1; rfl
 by_cases h2:o=[108,105]
 · subst h2; rfl
 by_cases h3:o=[100,116]
 · subst h3; rfl
 by_cases h4:o=[100,100]
 · subst h4; rfl
 by_cases h5:o=[111,112,116,105,111,110]
 · subst h5; rfl
 by_cases h6:o=[116,100]
 · subst h6; rfl
 by_cases h7:o=[116,114]
 · subst h7; rfl
 · simp [dm,h1,h2,h3,h4,h5,h6,h7]
theorem vf (o b:Str):Fn Tryz.prog lB [.str o,.str b] (.bool (rp o b)):=by
 refine Fn.of_imageE mixed lQ lL rfl fun ho=>?_
 unfold iu
 simp only [oks,ok,and_true] at ho
 clear ho
 simp (disch:=omega) [-List.reduceReplicate]
 refine aS [] 0 [] (by simp) (by simp) (by simp) (by simp) ta (by simp) fun _ _=>?_
 have hg:=Nl o
 by_cases he:dm o=[]
 · rw [if_pos he] at hg
   simp (disch:=omega) [-List.reduceReplicate,hg,bm,kOf,aJ,aU,fe]
   have hc:=aW [] b
   refine ah (by simpa using hc) rfl fun _=>?_
   simp (disch:=omega) [-List.reduceReplicate,rp,he]
 · rw [if_neg he] at hg
   simp (disch:=omega) [-List.reduceReplicate,hg,bm,kOf,aJ,aU,fe,zo]
   refine ah (aW (dm o) b) rfl fun _=>?_
   simp (disch:=omega) [-List.reduceReplicate,rp]
theorem qf (par:Str) (n:Node) (hp:par.length≤1000000) (ht:n.text.length≤100000000):Fn Tryz.prog zG [.str par,n.v] (.bool (c7 par n)):=by
 refine Fn.of_image mixed At Ad rfl fun ho=>?_
 unfold qx
 simp only [oks,ok,and_true] at ho
 clear ho
 simp (disch:=omega) [-List.reduceReplicate,c7]
 refine ah (EL par) rfl fun _=>?_
 simp (disch:=omega) [-List.reduceReplicate]
 refine BrK.mk (fun h1=>?_) (fun h1=>?_)
 · simp (disch:=omega) [-List.reduceReplicate,h1]
 · simp (disch:=omega) [-List.reduceReplicate,h1]
   refine ah (yQ par) rfl fun _=>?_
   simp (disch:=omega) [-List.reduceReplicate]
   refine BrK.mk (fun h2=>?_) (fun h2=>?_)
   · simp (disch:=omega) [-List.reduceReplicate,h2]
     refine BrKd.mk (fun hk=>?_) (fun hk=>?_)
     · simp (disch:=omega) [-List.reduceReplicate,hk]
       have e:n.text++[60,47]++par++[62]=n.text++60::47::(par++[62]):=by simp
       have hE:=AE (n.text++[60,47]++par++[62]) par (by simp; omega) hp
       rw [e] at hE
       refine bw hE rfl ?_
       simp (disch:=omega) [-List.reduceReplicate,hk]
     · simp (disch:=omega) [-List.reduceReplicate,hk]
   · simp (disch:=omega) [-List.reduceReplicate,h2]
     refine BrKd.mk (fun h3=>?_) (fun h3=>?_)
     · simp (disch:=omega) [-List.reduceReplicate,h3]
       refine ah (vf par n.name) rfl fun _=>?_
       simp (disch:=omega) [-List.reduceReplicate,h3]
     · simp (disch:=omega) [-List.reduceReplicate,h3]
def bM (par:Str) (n:Node):Bool:=c7 par n && (!decide (n.kind=3) || !uK qG n.text)
end Go.Abs.F
end
section
namespace Go.Abs.F
open Go.Proofs
attribute [-simp] getElem?_pos Option.not_isSome List.map_map
end Go.Abs.F

end
section
namespace Go.Abs.F
open Go.Proofs
attribute [-simp] getElem?_pos Option.not_isSome List.map_map
end Go.Abs.F

end
section
namespace Go.Abs.F
open Go.Proofs
attribute [-simp] getElem?_pos Option.not_isSome List.map_map
def shp (n:Node):Prop:=(n.kind=1→named n.name=true)∧(n.kind≠1→n.kids=[])
def zR (els:List Allowed) (l:List Str):Prop:=∀ s∈l,s=fQ∨s=eT∨(bj els s).isSome=true
def gP (p:Policy):Prop:=zR p.elements p.top∧∀ e∈p.elements,zR p.elements e.kids
theorem rX {s:Str} (h:named s=true):s≠fQ∧s≠eT:=by
 constructor<;>rintro rfl<;>exact absurd h (by decide)
theorem GT {els:List Allowed} {l:List Str} {s:Str} (hl:zR els l) (hs:named s=true) (h:bT l s=true):(bj els s).isSome=true:=by
 rcases hl s (pY.1 h) with h1 | h1 | h1
 · exact absurd h1 (rX hs).1
 · exact absurd h1 (rX hs).2
 · exact h1
theorem ux {p:Policy} (hp:gP p) {n:Node} (hn:shp n) (par:Str):mE p par n=dH p par n:=by
 have key:∀ l:List Str,zR p.elements l→n.kind=1→((bj p.elements n.name).isSome && bT l n.name)=bT l n.name:=fun l hl hk=>by
  cases h:bT l n.name
  · simp
  · simp [GT hl (hn.1 hk) h]
 unfold mE dH B7
 by_cases h0:par=[]
 · simp only [h0,if_true]
   by_cases hk:n.kind=1
   · simp [hk,key _ hp.1 hk]
   · simp [hk]
 · simp only [h0,if_false]
   cases hf:bj p.elements par with
   | none=>simp [Allowed.zero,bT]
   | some e=>
     simp only [Option.getD_some]
     by_cases hk:n.kind=1
     · simp [hk,key _ (hp.2 e (mG hf).1) hk]
     · simp [hk]
end Go.Abs.F
end
section
namespace Go.Abs.F
open Go.Proofs
attribute [-simp] getElem?_pos Option.not_isSome List.map_map
end Go.Abs.F

end
section
namespace Go.Abs.F
open Go.Proofs
attribute [-simp] getElem?_pos Option.not_isSome List.map_map
def rO (A:Constraint→Str→Bool) (p:Policy) (par:Str) (n:Node):Bool:=
 dH p par n && ((bj p.elements n.name).isSome && whole ((bj p.elements n.name).getD .zero) (eL A ((bj p.elements n.name).getD .zero) n.attrs))
def uw (A:Constraint→Str→Bool) (p:Policy) (n:Node):List Attr:=eL A ((bj p.elements n.name).getD .zero) n.attrs
mutual
def clN (A:Constraint→Str→Bool) (p:Policy):Node→Str→List Node
 | ⟨k,nm,at',tx,ks⟩,par=>if k=1 then (if rO A p par ⟨k,nm,at',tx,ks⟩ then [⟨1,nm,uw A p ⟨k,nm,at',tx,ks⟩,[],clL A p ks nm⟩] else if bT p.unwrap nm then clL A p ks par else [])
   else if dH p par ⟨k,nm,at',tx,ks⟩ then [⟨k,[],[],tx,[]⟩] else []
def clL (A:Constraint→Str→Bool) (p:Policy):List Node→Str→List Node
 | [],_=>[]
 | n::l,par=>clN A p n par++clL A p l par
end
theorem l6 (A:Constraint→Str→Bool) (p:Policy) (n:Node) (par:Str):clN A p n par=if n.kind=1 then (if rO A p par n then [⟨1,n.name,uw A p n,[],clL A p n.kids n.name⟩] else if bT p.unwrap n.name then clL A p n.kids par else [])
 else if dH p par n then [⟨n.kind,[],[],n.text,[]⟩] else []:=by
 cases n; rfl
def wOK (n:Node):Prop:=eE n false=0
theorem l4 (f:Attr→Bool):∀ (l pre pre':List Attr),(∀ s,dY pre s=false→dY pre' s=false)→ii pre l=0→ii pre' (l.filter f)=0
 | [],pre,pre',hp,h=>rfl
 | a::l,pre,pre',hp,h=>by
   simp only [ii] at h
   split at h
   · rename_i ha
     split at h
     · cases h
     · rename_i hn
       have hn:dY pre a.name=false:=by simpa using hn
       have snoc:∀ (q:List Attr) (s:Str),dY (q++[a]) s=(dY q s || decide (a.name=s)):=fun q s=>by
        induction q with
        | nil=>by_cases h:a.name=s<;>simp [dY,h]
        | cons b q ih=>by_cases h:b.name=s<;>simp [dY,h,ih]
       simp only [List.filter_cons]
       split
       · simp only [ii,ha,if_true,hp _ hn,if_false,Bool.false_eq_true]
         refine l4 f l (pre++[a]) (pre'++[a]) (fun s hs=>?_) h
         rw [snoc] at hs ⊢
         simp only [Bool.or_eq_false_iff] at hs ⊢
         exact ⟨hp s hs.1,hs.2⟩
       · refine l4 f l (pre++[a]) pre' (fun s hs=>?_) h
         rw [snoc] at hs
         simp only [Bool.or_eq_false_iff] at hs
         exact hp s hs.1
   · cases h
theorem gX (f:Attr→Bool):∀ l:List Attr,bS l=true→bS (l.filter f)=true
 | [],h=>rfl
 | a::l,h=>by
   simp only [bS,Bool.and_eq_true] at h
   simp only [List.filter_cons]
   split
   · simp only [bS,h.1,gX f l h.2,Bool.and_self]
   · exact gX f l h.2
theorem zh {n:Node} (hk:n.kind=1):wOK n↔n.text=[]∧named n.name=true∧ii [] n.attrs=0∧bS n.attrs=true:=by
 unfold wOK eE jy
 rw [if_pos hk]
 constructor
 · intro h
   split at h
   · split at h
     · split at h
       · split at h
         · exact ⟨‹_›,‹_›,‹_›,‹_›⟩
         · cases h
       · rename_i hd; exact absurd h hd
     · cases h
   · cases h
 · rintro ⟨h1,h2,h3,h4⟩
   simp [h1,h2,h3,h4]
theorem oZ {n:Node} (hk:n.kind≠1) (h:wOK n):(n.kind=2∨n.kind=3)∧n.name=[]∧n.attrs=[]∧n.kids=[]:=by
 unfold wOK eE at h
 rw [if_neg hk] at h
 split at h
 · split at h
   · exact ⟨‹_›,‹_›⟩
   · cases h
 · cases h
theorem Fd:∀ (l:List Node) (b:Bool),i4 b l=0→an wOK l:=by
 refine ay (fun _ _=>trivial) ?_
 intro n l h1 h2 b h
 obtain ⟨g1,g2,g3⟩:=yw h
 refine bg.2 fun x hx=>?_
 rcases List.mem_cons.1 hx with rfl | hx
 · refine ⟨?_,h1 _ g2⟩
   unfold wOK eE at *
   by_cases hk1:x.kind=1
   · rw [if_pos hk1] at g1 ⊢; exact g1
   · rw [if_neg hk1] at g1 ⊢
     split at g1
     · rename_i q1
       rw [if_pos q1]
       split at g1
       · rename_i q2
         rw [if_pos q2]
         split at g1
         · rename_i q3
           rw [if_pos ⟨q3.1,fun h=>⟨(q3.2 h).1,rfl⟩⟩]
         · cases g1
       · cases g1
     · cases g1
 · exact bg.1 (h2 _ g3) x hx
theorem aL {f:Node→Prop} {n:Node} {l:List Node}:an f (n::l)↔(f n∧an f n.kids)∧an f l:=by
 cases n; simp only [an,Dr]
theorem ki {f:Node→Prop}:∀ {a b:List Node},an f (a++b)↔an f a∧an f b
 | [],b=>by simp [an]
 | n::a,b=>by rw [List.cons_append,aL,aL,ki]; simp only [and_assoc]
theorem MT {n:Node} (hk:n.kind≠1) (h:wOK n):(⟨n.kind,[],[],n.text,[]⟩:Node)=n:=by
 obtain ⟨_,h1,h2,h3⟩:=oZ hk h
 cases n; simp_all
theorem Qn (A:Constraint→Str→Bool) (p:Policy):∀ (l:List Node) (par:Str),an wOK l→an wOK (clL A p l par):=by
 refine ay (fun _ _=>by simp [clL,an]) ?_
 intro n l h1 h2 par h
 obtain ⟨⟨g1,g2⟩,g3⟩:=aL.1 h
 simp only [clL]
 refine ki.2 ⟨?_,h2 par g3⟩
 rw [l6]
 split
 · rename_i hk
   split
   · refine aL.2 ⟨⟨?_,h1 _ g2⟩,trivial⟩
     obtain ⟨a,b,c,d⟩:=(zh hk).1 g1
     exact (zh rfl).2 ⟨rfl,b,l4 _ _ [] [] (fun _ h=>h) c,gX _ _ d⟩
   · split
     · exact h1 par g2
     · trivial
 · rename_i hk
   split
   · rw [MT hk g1]
     exact aL.2 ⟨⟨g1,g2⟩,trivial⟩
   · trivial
theorem Eg (A:Constraint→Str→Bool) (e:Allowed) (l:List Attr):sa A e (eL A e l)=whole e (eL A e l):=by
 simp [sa,eL]
theorem r5:∀ (l out:List Node),∀ m∈am out l,∃ n∈out++l,m.kind=n.kind∧m.name=n.name∧m.attrs=n.attrs∧m.kids=n.kids
 | [],out,m,h=>⟨m,by simpa [am] using h,rfl,rfl,rfl,rfl⟩
 | n::l,out,m,h=>by
   have go:∀ out',m∈am out' l→(∀ x∈out',∃ y∈out++n::l,x.kind=y.kind∧x.name=y.name∧x.attrs=y.attrs∧x.kids=y.kids)→∃ y∈out++n::l,m.kind=y.kind∧m.name=y.name∧m.attrs=y.attrs∧m.kids=y.kids:=fun out' h' ho=>by
    obtain ⟨x,hx,e1,e2,e3,e4⟩:=r5 l out' m h'
    rcases List.mem_append.1 hx with hx | hx
    · obtain ⟨y,hy,f1,f2,f3,f4⟩:=ho x hx
      exact ⟨y,hy,e1.trans f1,e2.trans f2,e3.trans f3,e4.trans f4⟩
    · exact ⟨x,by simp [hx],e1,e2,e3,e4⟩
   have self:∀ x∈out,∃ y∈out++n::l,x.kind=y.kind∧x.name=y.name∧x.attrs=y.attrs∧x.kids=y.kids:=fun x hx=>⟨x,by simp [hx],rfl,rfl,rfl,rfl⟩
   have more:∀ x∈out++[n],∃ y∈out++n::l,x.kind=y.kind∧x.name=y.name∧x.attrs=y.attrs∧x.kids=y.kids:=fun x hx=>⟨x,by simp at hx ⊢; exact hx.elim .inl fun h=>.inr (.inl h),rfl,rfl,rfl,rfl⟩
   simp only [am] at h
   split at h
   · exact go out h self
   · split at h
     · rename_i o ho
       split at h
       · refine go _ h fun x hx=>?_
         rcases List.mem_or_eq_of_mem_set hx with hx | hx
         · exact self x hx
         · exact ⟨o,by simp [List.mem_of_getElem? ho],by rw [hx],by rw [hx],by rw [hx],by rw [hx]⟩
       · exact go _ h more
     · exact go _ h more
def rq (A:Constraint→Str→Bool) (p:Policy) (l:List Node):List Node:=if may l=0 then tX (clL A p l []) else []
mutual
def wtN:Node→Nat
 | ⟨_,_,a,_,ks⟩=>1 + a.length + aX ks
def aX:List Node→Nat
 | []=>0
 | n::l=>wtN n + aX l
end
theorem kW (n:Node):wtN n=1 + n.attrs.length + aX n.kids:=by cases n; rfl
theorem dp:∀ a b:List Node,aX (a++b)=aX a + aX b
 | [],b=>by simp [aX]
 | n::a,b=>by simp only [List.cons_append,aX,dp a b]; omega
theorem kV (f:Node→Bool):∀ l:List Node,aX (l.filter f)≤aX l
 | []=>by simp [aX]
 | n::l=>by
   have:=kV f l
   simp only [List.filter_cons]
   split<;>simp only [aX]<;>omega
theorem A7:∀ (l:List Node) (i:Nat) (o m:Node),l[i]?=some o→wtN m=wtN o→aX (l.set i m)=aX l
 | [],i,o,m,h,e=>by simp at h
 | n::l,0,o,m,h,e=>by simp at h; subst h; simp [aX,e]
 | n::l,i + 1,o,m,h,e=>by simp only [List.getElem?_cons_succ] at h; simp only [List.set_cons_succ,aX,A7 l i o m h e]
theorem ew:∀ l out:List Node,aX (am out l)≤aX out + aX l
 | [],out=>by simp [am,aX]
 | n::l,out=>by
   simp only [am,aX]
   split
   · have:=ew l out; omega
   · split
     · rename_i o ho
       split
       · have:=ew l (out.set (out.length - 1) ⟨o.kind,o.name,o.attrs,o.text++n.text,o.kids⟩)
         rw [A7 out _ o _ ho (by simp [kW])] at this
         omega
       · have:=ew l (out++[n])
         rw [dp] at this
         simp only [aX] at this
         omega
     · have:=ew l (out++[n])
       rw [dp] at this
       simp only [aX] at this
       omega
theorem tM (l:List Node):aX (aZ l)≤aX l:=by
 have:=ew l []
 simpa [aZ,aX] using this
theorem tL (f:Node→Bool):∀ l:List Node,aX ((l.filter f).flatMap b5)≤aX (l.flatMap b5)
 | []=>by simp [aX]
 | n::l=>by
   have:=tL f l
   simp only [List.filter_cons,List.flatMap_cons,dp]
   split
   · simp only [List.flatMap_cons,dp]; omega
   · omega
theorem zd:∀ l:List Node,aX (l.flatMap b5)≤aX l:=by
 refine ay (by simp [aX]) ?_
 intro n l h1 h2
 rw [List.flatMap_cons,dp]
 simp only [aX]
 have:aX (b5 n)≤wtN n:=by
  rw [n3]
  split
  · simp [aX]
  · split
    · simp only [aX,kW]
      have g1:=kV (c7 n.name) (aZ ((a7 n.name n.kids).flatMap b5))
      have g2:=tM ((a7 n.name n.kids).flatMap b5)
      have g3:=tL (c7 n.name) n.kids
      simp only [a7] at *
      omega
    · simp [aX]
 omega
theorem HJ (A:Constraint→Str→Bool) (p:Policy):∀ (l:List Node) (par:Str),aX (clL A p l par)≤aX l:=by
 refine ay (fun _=>by simp [clL,aX]) ?_
 intro n l h1 h2 par
 have a1:=h2 par
 simp only [clL,dp,aX]
 have:aX (clN A p n par)≤wtN n:=by
  rw [l6,kW]
  split
  · split
    · have g1:(uw A p n).length≤n.attrs.length:=List.length_filter_le _ _
      have g2:=h1 n.name
      simp only [aX,kW]
      omega
    · split
      · have:=h1 par; omega
      · simp [aX]
  · split
    · simp only [aX,kW,List.length_nil]; omega
    · simp [aX]
 omega
mutual
def N4:Node→List Node
 | ⟨_,_,_,_,ks⟩=>et ks
def et:List Node→List Node
 | []=>[]
 | n::l=>n::N4 n++et l
end
theorem vF (n:Node):N4 n=et n.kids:=by cases n; rfl
theorem vE:∀ l:List Node,(et l).length=ai l:=by
 refine ay rfl ?_
 intro n l h1 h2
 simp only [et,vF,List.cons_append,List.length_cons,List.length_append,h1,h2,ai]
 cases n; simp only [jA]; omega
mutual
def Pg:Node→Str
 | ⟨k,_,_,t,ks⟩=>(if k=2 then t else [])++i1 ks
def i1:List Node→Str
 | []=>[]
 | n::l=>Pg n++i1 l
end
theorem pg (n:Node):Pg n=(if n.kind=2 then n.text else [])++i1 n.kids:=by cases n; rfl
def jh (t:Str):Node:=⟨2,[],[],t,[]⟩
def e9 (u:List Str):Policy:=⟨[fQ],[],u⟩
theorem pC {u:List Str} {n:Node}:dH (e9 u) [] n=if n.kind=2 then true else if n.kind=3 then false else decide (n.kind=1) && decide (fQ=n.name):=by
 unfold dH B7 e9
 simp only [if_true,bT]
 by_cases h2:n.kind=2
 · simp [h2]
 · by_cases h3:n.kind=3
   · simp [h3,fQ,eT]
   · simp [h2,h3]
theorem Iq {n:Node} (hk:n.kind=2) (h:wOK n):n.text≠[]∧right n.text=true:=by
 obtain ⟨_,h2,h3⟩:=nj hk h
 exact ⟨h3,h2⟩
theorem Hk (A:Constraint→Str→Bool) {u:List Str}:∀ l:List Node,an wOK l→(∀ m∈et l,m.kind=1→bT u m.name=true)→∃ ts:List Str,clL A (e9 u) l []=ts.map jh∧ts.flatten=i1 l∧∀ t∈ts,t≠[]:=by
 refine ay (fun _ _=>⟨[],rfl,rfl,fun _ h=>by cases h⟩) ?_
 intro n l h1 h2 h hu
 obtain ⟨⟨g1,g2⟩,g3⟩:=aL.1 h
 simp only [et,vF,List.cons_append,List.forall_mem_cons,List.forall_mem_append] at hu
 obtain ⟨u1,u2,u3⟩:=hu
 obtain ⟨ts,e1,e2,e3⟩:=h2 g3 u3
 simp only [clL,e1,i1,pg,l6,rO,pC]
 by_cases hk:n.kind=1
 · obtain ⟨ks,f1,f2,f3⟩:=h1 g2 u2
   have hne:¬fQ=n.name:=by
    have:=((zh hk).1 g1).2.1
    intro e; rw [←e] at this; exact absurd this (by decide)
   refine ⟨ks++ts,?_,?_,fun t ht=>(List.mem_append.1 ht).elim (f3 t) (e3 t)⟩
   · simp [hk,hne,u1 hk,f1,e9,pC]
     simp [e9] at f1 u1
     simp [u1 hk,f1]
   · simp [hk,f2,e2]
 · obtain ⟨q1,_,_,q4⟩:=oZ hk g1
   rcases q1 with h2' | h3'
   · refine ⟨n.text::ts,?_,?_,fun t ht=>?_⟩
     · simp [h2',jh]
     · simp [h2',q4,i1,e2]
     · rcases List.mem_cons.1 ht with rfl | ht
       · exact (Iq h2' g1).1
       · exact e3 t ht
   · exact ⟨ts,by simp [h3'],by simp [h3',q4,i1,e2],e3⟩
theorem r0:∀ (ts:List Str) (t:Str),t≠[]→(∀ x∈ts,x≠[])→am [jh t] (ts.map jh)=[jh (t++ts.flatten)]
 | [],t,_,_=>by simp [am]
 | x::ts,t,ht,h=>by
   have:=r0 ts (t++x) (by simp [ht]) (fun y hy=>h y (by simp [hy]))
   have hx:=h x (by simp)
   simp only [List.map_cons,am,jh] at *
   simp [hx,this]
theorem Dg (A:Constraint→Str→Bool) {u:List Str} {l:List Node} (hm:may l=0) (hu:∀ m∈et l,m.kind=1→bT u m.name=true):rq A (e9 u) l=if i1 l=[] then [] else [jh (i1 l)]:=by
 obtain ⟨ts,e1,e2,e3⟩:=Hk A l (Fd l false hm) hu
 have hs:∀ ts:List Str,(ts.map jh).flatMap b5=ts.map jh:=fun ts=>by
  induction ts with
  | nil=>rfl
  | cons t ts ih=>rw [List.map_cons,List.flatMap_cons,ih,n3]; simp [jh]
 rw [rq,if_pos hm,e1,tX,hs,←e2]
 cases ts with
 | nil=>simp [aZ,am]
 | cons t ts=>
   have ht:=e3 t (by simp)
   have:=r0 ts t ht (fun x hx=>e3 x (by simp [hx]))
   rw [if_neg (by simp [ht])]
   simp only [aZ,List.map_cons,am,jh] at *
   simp [ht,this]
end Go.Abs.F
end
section
namespace Go.Abs.F
open Go.Proofs Go.RowKit
attribute [-simp] getElem?_pos Option.not_isSome List.map_map
structure Jb where
 sp:List Node
 ag:List V
 tg:Option (Nat × Nat × Nat)
def Jb.tv (jo:Nat) (q:Jb):V:=match q.tg with
 | none=>.q 0 jo 0 0 0
 | some (j,n,i)=>.q 2 j n i 4
def Jb.v (jo:Nat) (q:Jb):V:=.strct (q.ag++[q.tv jo])
def dA (n:Node) (kc:V):V:=.strct [.int .i64 n.kind,.str n.name,.seq 2 (n.attrs.map Attr.v),.str n.text,kc]
def rE (S:Nat→Option (List Node)) (Js:List Jb) (v:V) (K:List Node) (tg:Option (Nat × Nat × Nat)):Prop:=
 ((v=.nil 5∨v=.seq 5 [])∧(K=[]∨∃ q∈Js,q.sp=K∧q.tg=tg))∨∃ j',v=.q 1 j' K.length 0 0∧S j'=some K
theorem rE.mono {S S':Nat→Option (List Node)} {Js Js':List Jb} {v:V} {K:List Node} {tg:Option (Nat × Nat × Nat)} (h:rE S Js v K tg) (hS:∀ j L,S j=some L→S' j=some L) (hJ:∀ q∈Js,q.tg=tg→q∈Js'∨q.sp=[]):rE S' Js' v K tg:=by
 rcases h with ⟨e,h | ⟨q,hq,e1,e2⟩⟩ | ⟨j',e,h⟩
 · exact .inl ⟨e,.inl h⟩
 · rcases hJ q hq e2 with h | h
   · exact .inl ⟨e,.inr ⟨q,h,e1,e2⟩⟩
   · exact .inl ⟨e,.inl (by rw [←e1]; exact h)⟩
 · exact .inr ⟨j',e,hS _ _ h⟩
structure TI (P:Jb→Prop) (raw:Node→V→Prop) (tn tj w jo:Nat) (T:List Node) (S:Nat→Option (List Node)) (pj pi:Nat) (C:List Jb) (ms:List Po) (jw:Nat) (J:List Jb):Prop where
 dom:∀ j L,S j=some L→j < ms.length∧j≠jo∧j≠jw
 jo0:jo < ms.length∧jo≠jw
 wait:ms[jw]?=some (.rw tj w (J.map (Jb.v jo)))
 var:∃ v,ms[jo]?=some (.bx 0 [v])∧rE S (J++C) v T none
 rows:∀ j L,S j=some L→∃ el:List V,ms[j]?=some (Po.rw tn 5 el)∧el.length=L.length∧∀ i m,L[i]?=some m→((j=pj∧pi≤i)∧∃ v,el[i]?=some v∧raw m v)∨(¬(j=pj∧pi≤i)∧∃ kc,el[i]?=some (dA m kc)∧rE S (J++C) kc m.kids (some (j,L.length,i)))
 jobs:∀ q∈J++C,P q∧(q.tg=none→q.sp=T)∧∀ j n i,q.tg=some (j,n,i)→∃ L m,S j=some L∧n=L.length∧L[i]?=some m∧¬(j=pj∧pi≤i)∧m.kids=q.sp
def qO (S:Nat→Option (List Node)) (j:Nat) (L:List Node):Nat→Option (List Node):=fun k=>if k=j then some L else S k
theorem qN (S:Nat→Option (List Node)) (j:Nat) (L:List Node):qO S j L j=some L:=by simp [qO]
theorem Fe {S:Nat→Option (List Node)} {j k:Nat} {L:List Node} (h:k≠j):qO S j L k=S k:=by simp [qO,h]
section
variable {P:Jb→Prop} {raw:Node→V→Prop} {tn tj w jo:Nat} {T:List Node} {S:Nat→Option (List Node)} {pj pi:Nat} {C:List Jb} {ms ms':List Po} {jw:Nat} {J:List Jb}
theorem TI.start {q:Jb} (hq:P q) (hs:q.sp=T) (ht:q.tg=none) (hne:jo≠jw) (hv:ms[jo]?=some (.bx 0 [.nil 5])) (hw:ms[jw]?=some (.rw tj w [Jb.v jo q])):TI P raw tn tj w jo T (fun _=>none) jo 0 [] ms jw [q] where
 dom:=fun j L h=>by cases h
 jo0:=⟨(List.getElem?_eq_some_iff.1 hv).1,hne⟩
 wait:=hw
 var:=⟨_,hv,.inl ⟨.inl rfl,.inr ⟨q,by simp,hs,ht⟩⟩⟩
 rows:=fun j L h=>by cases h
 jobs:=fun p hp=>by
  simp at hp
  subst hp
  exact ⟨hq,fun _=>hs,fun j n i e=>by rw [ht] at e; cases e⟩
theorem TI.ext (h:TI P raw tn tj w jo T S pj pi C ms jw J) (hl:ms.length≤ms'.length) (hk:∀ j p,ms[j]?=some p→(j=jo∨j=jw∨∃ L,S j=some L)→ms'[j]?=some p):TI P raw tn tj w jo T S pj pi C ms' jw J where
 dom:=fun j L hj=>by have:=h.dom j L hj; exact ⟨by omega,this.2⟩
 jo0:=⟨by have:=h.jo0.1; omega,h.jo0.2⟩
 wait:=hk _ _ h.wait (.inr (.inl rfl))
 var:=by
  obtain ⟨v,hv,hg⟩:=h.var
  exact ⟨v,hk _ _ hv (.inl rfl),hg⟩
 rows:=fun j L hj=>by
  obtain ⟨el,h1,h2⟩:=h.rows j L hj
  exact ⟨el,hk _ _ h1 (.inr (.inr ⟨L,hj⟩)),h2⟩
 jobs:=h.jobs
theorem TI.pop {q:Jb} (h:TI P raw tn tj w jo T S pj pi [] ms jw (J++[q])):TI P raw tn tj w jo T S pj pi [q] (ms.set jw .no++[.rw tj w (J.map (Jb.v jo))]) ms.length J:=by
 have hjw:=(List.getElem?_eq_some_iff.1 h.wait).1
 have keep:∀ {j:Nat} {p:Po},j≠jw→ms[j]?=some p→(ms.set jw .no++[.rw tj w (J.map (Jb.v jo))])[j]?=some p:=fun {j p} hj hp=>by
  have hlt:=(List.getElem?_eq_some_iff.1 hp).1
  rw [List.getElem?_append_left (by simpa using hlt),List.getElem?_set_ne (Ne.symm hj)]
  exact hp
 refine ⟨fun j L hj=>?_,?_,?_,?_,fun j L hj=>?_,fun p hp=>h.jobs p (by simpa using hp)⟩
 · have:=h.dom j L hj
   simp only [List.length_append,List.length_set,List.length_cons,List.length_nil]
   omega
 · have:=h.jo0
   simp only [List.length_append,List.length_set,List.length_cons,List.length_nil]
   omega
 · rw [List.getElem?_append_right (by simp),List.length_set,Nat.sub_self]
   rfl
 · obtain ⟨v,hv,hg⟩:=h.var
   exact ⟨v,keep h.jo0.2 hv,by simpa using hg⟩
 · obtain ⟨el,h1,h2,h3⟩:=h.rows j L hj
   exact ⟨el,keep (h.dom j L hj).2.2 h1,h2,fun i m hm=>by simpa using h3 i m hm⟩
theorem TI.row {q:Jb} {j':Nat} {el:List V} (h:TI P raw tn tj w jo T S jo 0 [q] ms jw J) (hn:S j'=none) (hj1:j'≠jo) (hj2:j'≠jw) (hr:ms[j']?=some (.rw tn 5 el)) (hl:el.length=q.sp.length) (hraw:∀ (i:Nat) (m:Node),q.sp[i]?=some m→∃ v,el[i]?=some v∧raw m v):TI P raw tn tj w jo T (qO S j' q.sp) j' 0 [q] ms jw J:=by
 have hS:∀ j L,S j=some L→qO S j' q.sp j=some L:=fun j L hj=>by
  rw [Fe (fun e=>by subst e; rw [hn] at hj; cases hj)]; exact hj
 have hS':∀ j L,qO S j' q.sp j=some L→(j=j'∧L=q.sp)∨(j≠j'∧S j=some L):=fun j L hj=>by
  by_cases e:j=j'
  · subst e; rw [qN] at hj; cases hj; exact .inl ⟨rfl,rfl⟩
  · rw [Fe e] at hj; exact .inr ⟨e,hj⟩
 refine ⟨fun j L hj=>?_,h.jo0,h.wait,?_,fun j L hj=>?_,fun p hp=>?_⟩
 · rcases hS' j L hj with ⟨rfl,_⟩ | ⟨_,hj⟩
   · exact ⟨(List.getElem?_eq_some_iff.1 hr).1,hj1,hj2⟩
   · exact h.dom j L hj
 · obtain ⟨v,hv,hg⟩:=h.var
   exact ⟨v,hv,hg.mono hS fun q hq _=>.inl hq⟩
 · rcases hS' j L hj with ⟨rfl,rfl⟩ | ⟨hne,hj⟩
   · exact ⟨el,hr,hl,fun i m hm=>.inl ⟨⟨rfl,Nat.zero_le _⟩,hraw i m hm⟩⟩
   · obtain ⟨el2,h1,h2,h3⟩:=h.rows j L hj
     refine ⟨el2,h1,h2,fun i m hm=>?_⟩
     rcases h3 i m hm with ⟨h4,_⟩ | ⟨h4,kc,h5,h6⟩
     · exact ((h.dom j L hj).2.1 h4.1).elim
     · exact .inr ⟨fun e=>hne e.1,kc,h5,h6.mono hS fun q hq _=>.inl hq⟩
 · obtain ⟨h1,h2,h3⟩:=h.jobs p hp
   refine ⟨h1,h2,fun j n i e=>?_⟩
   obtain ⟨L,m,k1,k2,k3,k4,k5⟩:=h3 j n i e
   exact ⟨L,m,hS _ _ k1,k2,k3,(fun e=>by rw [e.1,hn] at k1; cases k1),k5⟩
theorem TI.next {q:Jb} {j' i:Nat} {L:List Node} {m:Node} {el el':List V} {J':List Jb} (h:TI P raw tn tj w jo T S j' i [q] ms jw J) (hS:S j'=some L) (hm:L[i]?=some m) (hel:ms[j']?=some (.rw tn 5 el)) (hl:ms.length≤ms'.length)
 (hel':ms'[j']?=some (.rw tn 5 el')) (hl':el'.length=el.length) {kc0:V} (hkc:kc0=.nil 5∨kc0=.seq 5 []) (hi:el'[i]?=some (dA m kc0)) (ho:∀ k,k≠i→el'[k]?=el[k]?) (hw:ms'[jw]?=some (.rw tj w (J'.map (Jb.v jo))))
 (hk:∀ j p,ms[j]?=some p→j≠j'→(j=jo∨∃ L,S j=some L)→ms'[j]?=some p) (hJ:(J'=J∧m.kids=[])∨∃ ag,P ⟨m.kids,ag,some (j',L.length,i)⟩∧J'=J++[⟨m.kids,ag,some (j',L.length,i)⟩]):TI P raw tn tj w jo T S j' (i + 1) [q] ms' jw J':=by
 obtain ⟨d1,d2,d3⟩:=h.dom j' L hS
 have hlt:=(List.getElem?_eq_some_iff.1 hm).1
 have jj:∀ p∈J++[q],p∈J'++[q]:=fun p hp=>by
  rcases hJ with ⟨rfl,_⟩ | ⟨ag,_,rfl⟩
  · exact hp
  · simp at hp ⊢; rcases hp with hp | hp<;>simp [hp]
 refine ⟨fun j K hj=>?_,?_,hw,?_,fun j K hj=>?_,fun p hp=>?_⟩
 · have:=h.dom j K hj; omega
 · have:=h.jo0; omega
 · obtain ⟨v,hv,hg⟩:=h.var
   exact ⟨v,hk _ _ hv d2.symm (.inl rfl),hg.mono (fun _ _ h=>h) fun q hq _=>.inl (jj q hq)⟩
 · obtain ⟨el2,h1,h2,h3⟩:=h.rows j K hj
   by_cases e:j=j'
   · subst e
     rw [hel] at h1
     cases h1
     rw [hS] at hj
     cases hj
     refine ⟨el',hel',by omega,fun k m2 hm2=>?_⟩
     by_cases ek:k=i
     · subst ek
       rw [hm] at hm2
       cases hm2
       refine .inr ⟨by omega,_,hi,.inl ⟨hkc,?_⟩⟩
       rcases hJ with ⟨_,hz⟩ | ⟨ag,_,rfl⟩
       · exact .inl hz
       · exact .inr ⟨⟨m.kids,ag,some (j,L.length,k)⟩,by simp,rfl,rfl⟩
     · rw [ho k ek]
       rcases h3 k m2 hm2 with ⟨h4,h5⟩ | ⟨h4,kc,h5,h6⟩
       · exact .inl ⟨⟨rfl,by omega⟩,h5⟩
       · exact .inr ⟨by omega,kc,h5,h6.mono (fun _ _ h=>h) fun q hq _=>.inl (jj q hq)⟩
   · refine ⟨el2,hk _ _ h1 e (.inr ⟨K,hj⟩),h2,fun k m2 hm2=>?_⟩
     rcases h3 k m2 hm2 with ⟨h4,_⟩ | ⟨h4,kc,h5,h6⟩
     · exact (e h4.1).elim
     · exact .inr ⟨fun e'=>e e'.1,kc,h5,h6.mono (fun _ _ h=>h) fun q hq _=>.inl (jj q hq)⟩
 · have old:∀ p∈J++[q],P p∧(p.tg=none→p.sp=T)∧∀ j n k,p.tg=some (j,n,k)→∃ L m,S j=some L∧n=L.length∧L[k]?=some m∧¬(j=j'∧i + 1≤k)∧m.kids=p.sp:=fun p hp=>by
    obtain ⟨h1,h2,h3⟩:=h.jobs p hp
    refine ⟨h1,h2,fun j n k e=>?_⟩
    obtain ⟨L2,m2,k1,k2,k3,k4,k5⟩:=h3 j n k e
    exact ⟨L2,m2,k1,k2,k3,by omega,k5⟩
   rcases hJ with ⟨rfl,_⟩ | ⟨ag,hP,rfl⟩
   · exact old p hp
   · have hp':p∈J++[q]∨p=⟨m.kids,ag,some (j',L.length,i)⟩:=by
      simp only [List.mem_append,List.mem_cons,List.not_mem_nil,or_false] at hp ⊢
      rcases hp with (hp | hp) | hp
      · exact .inl (.inl hp)
      · exact .inr hp
      · exact .inl (.inr hp)
     rcases hp' with hp' | rfl
     · exact old p hp'
     · refine ⟨hP,fun e=>(by cases e),fun j n k e=>?_⟩
       simp only [Option.some.injEq,Prod.mk.injEq] at e
       obtain ⟨rfl,rfl,rfl⟩:=e
       exact ⟨L,m,hS,rfl,hm,by omega,rfl⟩
theorem TI.full {j':Nat} {L:List Node} (h:TI P raw tn tj w jo T S j' L.length C ms jw J) (hS:S j'=some L):TI P raw tn tj w jo T S jo 0 C ms jw J:=by
 have no:∀ {j i:Nat} {K:List Node} {m:Node},S j=some K→K[i]?=some m→¬(j=j'∧L.length≤i):=fun {j i K m} hj hm e=>by
  obtain ⟨rfl,e⟩:=e
  rw [hS] at hj
  cases hj
  have:=(List.getElem?_eq_some_iff.1 hm).1
  omega
 refine ⟨h.dom,h.jo0,h.wait,h.var,fun j K hj=>?_,fun p hp=>?_⟩
 · obtain ⟨el2,h1,h2,h3⟩:=h.rows j K hj
   refine ⟨el2,h1,h2,fun k m2 hm2=>?_⟩
   rcases h3 k m2 hm2 with ⟨h4,_⟩ | ⟨h4,h5⟩
   · exact (no hj hm2 h4).elim
   · exact .inr ⟨fun e=>(h.dom j K hj).2.1 e.1,h5⟩
 · obtain ⟨h1,h2,h3⟩:=h.jobs p hp
   refine ⟨h1,h2,fun j n i e=>?_⟩
   obtain ⟨K,m,k1,k2,k3,k4,k5⟩:=h3 j n i e
   exact ⟨K,m,k1,k2,k3,fun e=>(h.dom j K k1).2.1 e.1,k5⟩
theorem TI.skip {q:Jb} (h:TI P raw tn tj w jo T S jo 0 [q] ms jw J) (hq:q.sp=[]):TI P raw tn tj w jo T S jo 0 [] ms jw J:=by
 have mv:∀ {v:V} {K:List Node} {tg:Option (Nat × Nat × Nat)},rE S (J++[q]) v K tg→rE S (J++[]) v K tg:=fun hg=>hg.mono (fun _ _ h=>h) fun p hp _=>by
  simp at hp ⊢
  rcases hp with hp | rfl
  · exact .inl hp
  · exact .inr hq
 refine ⟨h.dom,h.jo0,h.wait,?_,fun j K hj=>?_,fun p hp=>h.jobs p (by simp at hp ⊢; exact .inl hp)⟩
 · obtain ⟨v,hv,hg⟩:=h.var
   exact ⟨v,hv,mv hg⟩
 · obtain ⟨el2,h1,h2,h3⟩:=h.rows j K hj
   refine ⟨el2,h1,h2,fun k m2 hm2=>?_⟩
   rcases h3 k m2 hm2 with h4 | ⟨h4,kc,h5,h6⟩
   · exact .inl h4
   · exact .inr ⟨h4,kc,h5,mv h6⟩
theorem TI.store0 {q:Jb} {u:V} (h:TI P raw tn tj w jo T S jo 0 [q] ms jw J) (hS:((u=.nil 5∨u=.seq 5 [])∧q.sp=[])∨∃ j',u=.q 1 j' q.sp.length 0 0∧S j'=some q.sp) (ht:q.tg=none):TI P raw tn tj w jo T S jo 0 [] (ms.set jo (.bx 0 [u])) jw J:=by
 have hjo:=h.jo0
 obtain ⟨_,hq,_⟩:=h.jobs q (by simp)
 have hq:=hq ht
 have keep:∀ {j:Nat} {p:Po},j≠jo→ms[j]?=some p→(ms.set jo (.bx 0 [u]))[j]?=some p:=fun {j p} hj hp=>by
  rw [List.getElem?_set_ne (Ne.symm hj)]; exact hp
 refine ⟨fun j L hj=>by simpa using h.dom j L hj,by simpa using hjo,keep hjo.2.symm h.wait,⟨_,List.getElem?_set_self hjo.1,by rw [←hq]; exact hS.imp (fun h=>⟨h.1,.inl h.2⟩) id⟩,fun j K hj=>?_,fun p hp=>h.jobs p (by simp at hp ⊢; exact .inl hp)⟩
 obtain ⟨el2,h1,h2,h3⟩:=h.rows j K hj
 have hd:=h.dom j K hj
 refine ⟨el2,keep hd.2.1 h1,h2,fun k m2 hm2=>?_⟩
 rcases h3 k m2 hm2 with ⟨h4,_⟩ | ⟨h4,kc,h5,h6⟩
 · exact (hd.2.1 h4.1).elim
 · refine .inr ⟨h4,kc,h5,h6.mono (fun _ _ h=>h) fun p hp e=>?_⟩
   simp at hp ⊢
   rcases hp with hp | rfl
   · exact .inl hp
   · rw [ht] at e; cases e
theorem TI.store1 {q:Jb} {u:V} {j n i:Nat} (h:TI P raw tn tj w jo T S jo 0 [q] ms jw J) (hS:((u=.nil 5∨u=.seq 5 [])∧q.sp=[])∨∃ j',u=.q 1 j' q.sp.length 0 0∧S j'=some q.sp) (ht:q.tg=some (j,n,i)):
 ∃ el m kc,ms[j]?=some (.rw tn 5 el)∧n=el.length∧el[i]?=some (dA m kc)∧TI P raw tn tj w jo T S jo 0 [] (ms.set j (.rw tn 5 (el.set i (dA m u)))) jw J:=by
 have hjo:=h.jo0
 obtain ⟨_,_,h0⟩:=h.jobs q (by simp)
 obtain ⟨L,m,k1,k2,k3,k4,k5⟩:=h0 j n i ht
 obtain ⟨d1,d2,d3⟩:=h.dom j L k1
 obtain ⟨el,e1,e2,e3⟩:=h.rows j L k1
 rcases e3 i m k3 with ⟨f1,_⟩ | ⟨_,kc,f1,f2⟩
 · exact (k4 f1).elim
 have keep:∀ {k:Nat} {p:Po},k≠j→ms[k]?=some p→(ms.set j (.rw tn 5 (el.set i (dA m u))))[k]?=some p:=fun {k p} hj hp=>by
  rw [List.getElem?_set_ne (Ne.symm hj)]; exact hp
 have mv:∀ {v:V} {K:List Node} {tg:Option (Nat × Nat × Nat)},tg≠some (j,n,i)→rE S (J++[q]) v K tg→rE S (J++[]) v K tg:=fun hne hg=>hg.mono (fun _ _ h=>h) fun p hp e=>by
  simp at hp ⊢
  rcases hp with hp | rfl
  · exact .inl hp
  · rw [ht] at e; exact (hne e.symm).elim
 refine ⟨el,m,kc,e1,by omega,f1,fun k K hk=>by simpa using h.dom k K hk,by simpa using hjo,keep d3.symm h.wait,?_,fun k K hk=>?_,fun p hp=>h.jobs p (by simp at hp ⊢; exact .inl hp)⟩
 · obtain ⟨v,hv,hg⟩:=h.var
   exact ⟨v,keep d2.symm hv,mv (by simp) hg⟩
 · obtain ⟨el2,h1,h2,h3⟩:=h.rows k K hk
   have hd:=h.dom k K hk
   by_cases ek:k=j
   · subst ek
     rw [k1] at hk
     cases hk
     rw [e1] at h1
     cases h1
     refine ⟨_,List.getElem?_set_self d1,by simpa using h2,fun x m2 hm2=>?_⟩
     by_cases ex:x=i
     · subst ex
       rw [k3] at hm2
       cases hm2
       have hlt:=(List.getElem?_eq_some_iff.1 f1).1
       exact .inr ⟨fun e=>d2 e.1,_,List.getElem?_set_self hlt,by rw [k5]; exact hS.imp (fun h=>⟨h.1,.inl h.2⟩) id⟩
     · rw [List.getElem?_set_ne (Ne.symm ex)]
       rcases h3 x m2 hm2 with ⟨h4,_⟩ | ⟨h4,kc2,h5,h6⟩
       · exact (d2 h4.1).elim
       · exact .inr ⟨h4,kc2,h5,mv (by simp [ex]) h6⟩
   · refine ⟨el2,keep ek h1,h2,fun x m2 hm2=>?_⟩
     rcases h3 x m2 hm2 with ⟨h4,_⟩ | ⟨h4,kc2,h5,h6⟩
     · exact (hd.2.1 h4.1).elim
     · exact .inr ⟨h4,kc2,h5,mv (by simp [ek]) h6⟩
theorem M9 {ms:List Po} {F:Nat} {cs:List V}:frz ms (F + 1) (.strct cs)=(eV (frz ms F) cs).map .strct:=rfl
theorem JR {ms:List Po} {F:Nat} {k:IntKind} {n:Int}:frz ms (F + 1) (.int k n)=some (.int k n):=rfl
theorem JO {ms:List Po} {F:Nat} {s:Str}:frz ms (F + 1) (.str s)=some (.str s):=rfl
theorem JP {ms:List Po} {F sz:Nat} {l:List V}:frz ms (F + 1) (.seq sz l)=some (.seq sz l):=rfl
theorem tC {g g':V→Option V} (hg:∀ v u,g v=some u→g' v=some u):∀ (l r:List V),eV g l=some r→eV g' l=some r
 | [],r,h=>h
 | v::l,r,h=>by
   simp only [eV] at h ⊢
   split at h
   · rename_i u us h1 h2
     cases h
     rw [hg _ _ h1,tC hg l _ h2]
   · cases h
theorem CO {ms:List Po}:∀ (F:Nat) (v u:V),frz ms F v=some u→frz ms (F + 1) v=some u:=by
 intro F
 induction F with
 | zero=>intro v u h; simp [frz] at h
 | succ F ih=>
   intro v u h
   cases v with
   | q k j n i off=>
     simp only [frz] at h ⊢
     split at h
     · rename_i hk
       rw [if_pos hk]
       split at h
       · rename_i e sz l hj
         split at h
         · rename_i hn
           simp only [Option.map_eq_some_iff] at h ⊢
           obtain ⟨us,h1,h2⟩:=h
           rw [if_pos hn]
           simp only [Option.map_eq_some_iff]
           exact ⟨us,tC ih _ _ h1,h2⟩
         · cases h
       · rename_i hj; exact h
       · cases h
     · cases h
   | strct cs=>
     simp only [frz,Option.map_eq_some_iff] at h ⊢
     obtain ⟨us,h1,h2⟩:=h
     exact ⟨us,tC ih _ _ h1,h2⟩
   | _=>first | (simp [frz] at h; done) | (simpa [frz] using h)
theorem JQ {ms:List Po} {F G:Nat} (h:F≤G) {v u:V} (hv:frz ms F v=some u):frz ms G v=some u:=by
 induction h with
 | refl=>exact hv
 | step _ ih=>exact CO _ _ _ ih
theorem M8 {ms:List Po} {F G:Nat} (h:F≤G) {l r:List V} (hv:eV (frz ms F) l=some r):eV (frz ms G) l=some r:=tC (fun _ _ hv=>JQ h hv) _ _ hv
theorem TI.read (h:TI P raw tn tj w jo T S jo 0 [] ms jw []):∃ v F,ms[jo]?=some (.bx 0 [v])∧frz ms F v=some (.seq 5 (T.map Node.v)):=by
 have Qd:∀ {v:V} {K:List Node} {tg:Option (Nat × Nat × Nat)},rE S ([]++[]) v K tg→((v=.nil 5∨v=.seq 5 [])∧K=[])∨∃ j',v=.q 1 j' K.length 0 0∧S j'=some K:=fun hg=>by
  rcases hg with ⟨e,h | ⟨q,hq,_⟩⟩ | hg
  · exact .inl ⟨e,h⟩
  · simp at hq
  · exact .inr hg
 have tree:∀ (L:List Node),(∀ (v:V) (tg:Option (Nat × Nat × Nat)),rE S ([]++[]) v L tg→∃ F,frz ms F v=some (.seq 5 (L.map Node.v))):=by
  -- all lists of kids that lie in a list
  have row:∀ (L:List Node),(∀ n∈L,∀ (v:V) (tg:Option (Nat × Nat × Nat)),rE S ([]++[]) v n.kids tg→∃ F,frz ms F v=some (.seq 5 (n.kids.map Node.v)))→∀ (v:V) (tg:Option (Nat × Nat × Nat)),rE S ([]++[]) v L tg→∃ F,frz ms F v=some (.seq 5 (L.map Node.v)):=by
   intro L hk v tg hg
   rcases Qd hg with ⟨rfl | rfl,rfl⟩ | ⟨j',rfl,hS⟩
   · exact ⟨1,rfl⟩
   · exact ⟨1,rfl⟩
   · obtain ⟨el,e1,e2,e3⟩:=h.rows j' L hS
     have hd:=h.dom j' L hS
     have each:∀ (i:Nat) (m:Node),L[i]?=some m→∃ c F,el[i]?=some c∧frz ms F c=some m.v:=fun i m hm=>by
      rcases e3 i m hm with ⟨f1,_⟩ | ⟨_,kc,f1,f2⟩
      · exact (hd.2.1 f1.1).elim
      · obtain ⟨F,hF⟩:=hk m (List.mem_of_getElem? hm) kc _ f2
        refine ⟨_,F + 2,f1,?_⟩
        have:=CO _ _ _ hF
        simp only [dA,M9,eV,JR,JO,JP,this,Option.map_some]
        rw [Node.v_eq]
     have rowF:∀ (l:List V) (K:List Node),l.length=K.length→(∀ (i:Nat) (m:Node),K[i]?=some m→∃ c F,l[i]?=some c∧frz ms F c=some m.v)→∃ F,eV (frz ms F) l=some (K.map Node.v):=by
      intro l
      induction l with
      | nil=>
        intro K hl _
        cases K with
        | nil=>exact ⟨0,rfl⟩
        | cons _ _=>simp at hl
      | cons c l ih=>
        intro K hl hc
        cases K with
        | nil=>simp at hl
        | cons m K=>
          obtain ⟨c',F1,g1,g2⟩:=hc 0 m rfl
          simp at g1
          subst g1
          obtain ⟨F2,g3⟩:=ih K (by simpa using hl) fun i x hx=>by simpa using hc (i + 1) x (by simpa using hx)
          refine ⟨max F1 F2,?_⟩
          have a1:=JQ (Nat.le_max_left F1 F2) g2
          have a2:eV (frz ms (max F1 F2)) l=some (K.map Node.v):=M8 (Nat.le_max_right F1 F2) g3
          simp only [eV,a1,a2,List.map_cons]
     obtain ⟨F,hF⟩:=rowF el L e2 each
     exact ⟨F + 1,by simp [frz,e1,e2,hF]⟩
  have all:∀ (L:List Node),∀ n∈L,∀ (v:V) (tg:Option (Nat × Nat × Nat)),rE S ([]++[]) v n.kids tg→∃ F,frz ms F v=some (.seq 5 (n.kids.map Node.v)):=by
   refine ay (fun n h=>by cases h) ?_
   intro n l h1 h2 x hx
   rcases List.mem_cons.1 hx with rfl | hx
   · exact row x.kids h1
   · exact h2 x hx
  exact fun L=>row L (all L)
 obtain ⟨v,hv,hg⟩:=h.var
 obtain ⟨F,hF⟩:=tree T v none hg
 exact ⟨v,F,hv,hF⟩
end
def stT (par:Str) (l:List Node):List Node:=a7 par (aZ ((a7 par l).flatMap b5))
def gN (n:Node):Node:=if n.kind=1 then ⟨n.kind,n.name,n.attrs,n.text,stT n.name n.kids⟩ else n
def bb (n:Node):Node:=if n.kind=1 then ⟨n.kind,n.name,n.attrs,n.text,[]⟩ else n
def jV (par:Str) (l:List Node):List Node:=aZ (l.filter (bM par))
theorem iO (φ:Node→Node) (hk:∀ n,(φ n).kind=n.kind) (h2:∀ n,n.kind=2→φ n=n):∀ l out:List Node,am (out.map φ) (l.map φ)=(am out l).map φ
 | [],out=>by simp [am]
 | n::l,out=>by
   have snoc:am (out.map φ++[φ n]) (l.map φ)=(am (out++[n]) l).map φ:=by
    have:=iO φ hk h2 l (out++[n])
    simpa using this
   simp only [List.map_cons,am,hk]
   by_cases h:n.kind=2
   · rw [h2 n h]
     rw [h2 n h] at snoc
     by_cases ht:n.text=[]
     · rw [if_pos ⟨h,ht⟩,if_pos ⟨h,ht⟩]
       exact iO φ hk h2 l out
     · rw [if_neg (fun e=>ht e.2),if_neg (fun e=>ht e.2)]
       simp only [List.length_map,List.getElem?_map]
       cases ho:out[out.length - 1]? with
       | none=>exact snoc
       | some o=>
         simp only [Option.map_some,hk]
         by_cases h3:o.kind=2
         · rw [if_pos ⟨h,h3⟩,if_pos ⟨h,h3⟩,h2 o h3]
           have:=iO φ hk h2 l (out.set (out.length - 1) ⟨o.kind,o.name,o.attrs,o.text++n.text,o.kids⟩)
           rw [List.map_set,h2 _ (by simpa using h3)] at this
           exact this
         · rw [if_neg (fun e=>h3 e.2),if_neg (fun e=>h3 e.2)]
           exact snoc
   · rw [if_neg (fun e=>h e.1),if_neg (fun e=>h e.1)]
     simp only [List.length_map,List.getElem?_map]
     cases ho:out[out.length - 1]? with
     | none=>exact snoc
     | some o=>
       simp only [Option.map_some]
       rw [if_neg (fun e=>h e.1),if_neg (fun e=>h e.1)]
       exact snoc
theorem yu (φ:Node→Node) (hk:∀ n,(φ n).kind=n.kind) (h2:∀ n,n.kind=2→φ n=n) (l:List Node):aZ (l.map φ)=(aZ l).map φ:=by
 have:=iO φ hk h2 l []
 simpa [aZ] using this
theorem Bj (n:Node):(bb n).kind=n.kind:=by unfold bb; split<;>rfl
theorem FC (n:Node):(gN n).kind=n.kind:=by unfold gN; split<;>rfl
theorem rN (par:Str):∀ l:List Node,(a7 par l).flatMap b5=(l.filter (bM par)).map gN
 | []=>rfl
 | n::l=>by
   have ih:=rN par l
   simp only [a7] at ih
   simp only [a7,List.filter_cons]
   by_cases hf:c7 par n=true
   · rw [if_pos hf,List.flatMap_cons,ih,n3]
     by_cases ha:n.kind=3∧uK qG n.text=true
     · have hs:bM par n=false:=by simp [bM,hf,ha.1,ha.2]
       rw [if_pos ha,if_neg (by simp [hs])]
       rfl
     · have hs:bM par n=true:=by
        simp only [bM,hf,Bool.true_and]
        by_cases h3:n.kind=3
        · have:uK qG n.text=false:=by
           cases h:uK qG n.text
           · rfl
           · exact absurd ⟨h3,h⟩ ha
          simp [h3,this]
        · simp [h3]
       rw [if_neg ha,if_pos hs,List.map_cons]
       unfold gN
       split<;>rfl
   · have hs:bM par n=false:=by simp [bM,hf]
     rw [if_neg hf,if_neg (by simp [hs])]
     exact ih
theorem Pn (par:Str) (l:List Node):stT par l=a7 par ((jV par l).map gN):=by
 rw [stT,rN,yu gN FC (fun n h=>by unfold gN; rw [if_neg (by omega)])]
 rfl
theorem PJ (par:Str) (l:List Node):aZ ((l.filter (bM par)).map bb)=(jV par l).map bb:=
 yu bb Bj (fun n h=>by unfold bb; rw [if_neg (by omega)]) _
def isE (n:Node):Bool:=decide (n.kind=1)
theorem kz {f:Node→Bool}:∀ (l:List Node) (i:Nat) (o m:Node),l[i]?=some o→f o=false→f m=false→(l.set i m).filter f=l.filter f
 | [],i,o,m,h,_,_=>by simp at h
 | n::l,0,o,m,h,h1,h2=>by simp at h; subst h; simp [h1,h2]
 | n::l,i + 1,o,m,h,h1,h2=>by
   simp only [List.getElem?_cons_succ] at h
   simp only [List.set_cons_succ,List.filter_cons,kz l i o m h h1 h2]
theorem iP:∀ l out:List Node,(am out l).filter isE=(out++l).filter isE
 | [],out=>by simp [am]
 | n::l,out=>by
   have snoc:=iP l (out++[n])
   simp only [List.append_assoc,List.cons_append,List.nil_append] at snoc
   simp only [am]
   by_cases h:n.kind=2
   · have he:isE n=false:=by simp [isE,h]
     have drop:(out++n::l).filter isE=(out++l).filter isE:=by simp [List.filter_append,List.filter_cons,he]
     by_cases ht:n.text=[]
     · rw [if_pos ⟨h,ht⟩,iP l out,drop]
     · rw [if_neg (fun e=>ht e.2)]
       split
       · rename_i o ho
         by_cases h3:o.kind=2
         · rw [if_pos ⟨h,h3⟩,iP l _,drop,List.filter_append,List.filter_append,kz out _ o _ ho (by simp [isE,h3]) (by simp [isE,h3])]
         · rw [if_neg (fun e=>h3 e.2)]; exact snoc
       · exact snoc
   · rw [if_neg (fun e=>h e.1)]
     split
     · rw [if_neg (fun e=>h e.1)]; exact snoc
     · exact snoc
theorem MN (par:Str) (l:List Node):(jV par l).filter isE=(l.filter (bM par)).filter isE:=by
 have:=iP (l.filter (bM par)) []
 simpa [jV,aZ] using this
theorem zM {par:Str} {l:List Node} {m:Node} (h:m∈jV par l):∃ n∈l,bM par n=true∧m.kind=n.kind∧m.name=n.name∧m.attrs=n.attrs∧m.kids=n.kids:=by
 obtain ⟨n,hn,e⟩:=r5 _ _ m h
 simp only [List.nil_append] at hn
 obtain ⟨h1,h2⟩:=List.mem_filter.1 hn
 exact ⟨n,h1,h2,e⟩
theorem xX {par:Str} {n:Node} (h:bM par n=true):c7 par n=true:=by simp only [bM,Bool.and_eq_true] at h; exact h.1
theorem Jp {par:Str} {l:List Node} (hr:raw par=false):∀ m∈jV par l,c7 par m=true:=fun m hm=>by
 obtain ⟨n,_,h2,e1,e2,_⟩:=zM hm
 rw [yL hr e1 e2]; exact xX h2
theorem I3 {par:Str} {n:Node} (hr:raw par=true) (h:c7 par n=true):n.kind=2:=by
 unfold c7 at h
 rw [hr] at h
 split at h
 · cases h
 · simp at h; exact h.1
theorem jX:∀ (l out:List Node),(∀ n∈l,n.kind=2)→(∀ n∈out,n.kind=2)→out.length≤1→(am out l).length≤1∧∀ n∈am out l,n.kind=2
 | [],out,_,h2,h3=>by simpa [am] using ⟨h3,h2⟩
 | n::l,out,h1,h2,h3=>by
   have hn:=h1 n (by simp)
   have hl:∀ m∈l,m.kind=2:=fun m hm=>h1 m (by simp [hm])
   simp only [am]
   split
   · exact jX l out hl h2 h3
   · split
     · rename_i o ho
       have ho2:=h2 o (List.mem_of_getElem? ho)
       rw [if_pos ⟨hn,ho2⟩]
       refine jX l _ hl (fun m hm=>?_) (by simpa using h3)
       rcases List.mem_or_eq_of_mem_set hm with hm | hm
       · exact h2 m hm
       · rw [hm]; exact ho2
     · rename_i ho
       have:out=[]:=by
        match out,h3,ho with
        | [],_,_=>rfl
        | [x],_,ho=>simp at ho
        | _::_::_,h3,_=>simp at h3
       subst this
       exact jX l _ hl (fun m hm=>by simp at hm; rw [hm]; exact hn) (by simp)
theorem MM {par:Str} {l:List Node} (hr:raw par=true):(jV par l).length≤1∧∀ m∈jV par l,m.kind=2:=
 jX _ [] (fun n hn=>I3 hr (xX (List.mem_filter.1 hn).2)) (fun _ h=>by cases h) (by simp)
def kK (par:Str) (l:List Node):List Node:=if raw par=true∧∃ m,(jV par l)[0]?=some m∧c7 par m=false then [] else jV par l
theorem Mg (par:Str) (l:List Node):stT par l=(kK par l).map gN:=by
 rw [Pn,kK]
 by_cases hr:raw par=true
 · obtain ⟨h1,h2⟩:=MM (l:=l) hr
   match hm:jV par l,h1,h2 with
   | [],_,_=>simp [a7]
   | [m],_,h2=>
     have hk:=h2 m (by simp)
     have hg:gN m=m:=by unfold gN; rw [if_neg (by omega)]
     by_cases hf:c7 par m=true
     · rw [if_neg (by rintro ⟨_,x,hx,hx2⟩; simp at hx; subst hx; rw [hf] at hx2; cases hx2)]
       simp [a7,hg,hf]
     · rw [if_pos ⟨hr,m,by simp,by simpa using hf⟩]
       simp [a7,hg,hf]
   | _::_::_,h1,_=>simp at h1
 · rw [if_neg (fun h=>hr h.1)]
   refine List.filter_eq_self.2 fun x hx=>?_
   obtain ⟨m,hm,rfl⟩:=List.mem_map.1 hx
   have hr':raw par=false:=by simpa using hr
   rw [yL (n:=m) hr' (FC m) (by unfold gN; split<;>rfl)]
   exact Jp hr' m hm
mutual
def ttN:Node→Nat
 | ⟨_,_,_,t,ks⟩=>t.length + bA ks
def bA:List Node→Nat
 | []=>0
 | n::l=>ttN n + bA l
end
theorem gV (n:Node):ttN n=n.text.length + bA n.kids:=by cases n; rfl
theorem tU {l:List Node} {n:Node} (h:n∈l):ttN n≤bA l:=by
 induction l with
 | nil=>cases h
 | cons x l ih=>
   simp only [bA]
   rcases List.mem_cons.1 h with rfl | h
   · omega
   · have:=ih h; omega
theorem L8 (l:List Node):bI l≤bA l:=by
 induction l with
 | nil=>simp [bI,bA]
 | cons n l ih=>simp only [bI,List.map_cons,List.sum_cons,bA,gV] at *; omega
def Kt (n:Node):Prop:=n.name.length≤1000000∧n.attrs.length≤1000000∧∀ a∈n.attrs,a.name.length≤1000000∧a.value.length≤1000
structure SizeB (l:List Node):Prop where
 att:an Kt l
 cnt:ai l < 1000
 wt:aX l≤1000000
 tt:bA l≤1000000
theorem iF:∀ a b:List Node,bA (a++b)=bA a + bA b
 | [],b=>by simp [bA]
 | n::a,b=>by simp only [List.cons_append,bA,iF a b]; omega
theorem Bd:∀ (l:List Node) (i:Nat) (o m:Node),l[i]?=some o→bA (l.set i m) + ttN o=bA l + ttN m
 | [],i,o,m,h=>by simp at h
 | n::l,0,o,m,h=>by simp at h; subst h; simp [bA]; omega
 | n::l,i + 1,o,m,h=>by
   simp only [List.getElem?_cons_succ] at h
   have:=Bd l i o m h
   simp only [List.set_cons_succ,bA]; omega
theorem eB:∀ l out:List Node,bA (am out l)≤bA out + bA l
 | [],out=>by simp [am,bA]
 | n::l,out=>by
   simp only [am,bA]
   split
   · have:=eB l out; omega
   · split
     · rename_i o ho
       split
       · have h1:=eB l (out.set (out.length - 1) ⟨o.kind,o.name,o.attrs,o.text++n.text,o.kids⟩)
         have h2:=Bd out _ o ⟨o.kind,o.name,o.attrs,o.text++n.text,o.kids⟩ ho
         simp only [gV,List.length_append] at h2 ⊢
         omega
       · have:=eB l (out++[n])
         rw [iF] at this
         simp only [bA] at this
         omega
     · have:=eB l (out++[n])
       rw [iF] at this
       simp only [bA] at this
       omega
theorem tT (l:List Node):bA (aZ l)≤bA l:=by
 have:=eB l []
 simpa [aZ,bA] using this
theorem Iv (A:Constraint→Str→Bool) (p:Policy):∀ (l:List Node) (par:Str),bA (clL A p l par)≤bA l:=by
 refine ay (fun _=>by simp [clL,bA]) ?_
 intro n l h1 h2 par
 have a1:=h2 par
 simp only [clL,iF,bA]
 have:bA (clN A p n par)≤ttN n:=by
  rw [l6,gV]
  split
  · split
    · have g2:=h1 n.name
      simp only [bA,gV,List.length_nil]
      omega
    · split
      · have:=h1 par; omega
      · simp [bA]
  · split
    · simp only [bA,gV]; omega
    · simp [bA]
 omega
theorem AN (n:Node):jA n=1 + ai n.kids:=by cases n; simp [jA]
theorem Ks (A:Constraint→Str→Bool) (p:Policy):∀ (l:List Node) (par:Str),an Kt l→an Kt (clL A p l par):=by
 refine ay (fun _ _=>by simp [clL,an]) ?_
 intro n l h1 h2 par h
 obtain ⟨⟨g1,g2⟩,g3⟩:=aL.1 h
 simp only [clL]
 refine ki.2 ⟨?_,h2 par g3⟩
 rw [l6]
 split
 · split
   · refine aL.2 ⟨⟨⟨g1.1,Nat.le_trans (List.length_filter_le _ _) g1.2.1,fun a ha=>g1.2.2 a (List.mem_filter.1 ha).1⟩,h1 n.name g2⟩,trivial⟩
   · split
     · exact h1 par g2
     · trivial
 · split
   · exact aL.2 ⟨⟨⟨by simp,by simp,fun a ha=>by cases ha⟩,trivial⟩,trivial⟩
   · trivial
theorem Kb (A:Constraint→Str→Bool) (p:Policy):∀ (l:List Node) (par:Str),ai (clL A p l par)≤ai l:=by
 refine ay (fun _=>by simp [clL,ai]) ?_
 intro n l h1 h2 par
 have a1:=h2 par
 simp only [clL,j9,ai]
 have:ai (clN A p n par)≤jA n:=by
  rw [l6,AN]
  split
  · split
    · have:=h1 n.name
      simp only [ai,AN]; omega
    · split
      · have:=h1 par; omega
      · simp [ai]
  · split
    · simp only [ai,AN]; omega
    · simp [ai]
 omega
theorem IE (A:Constraint→Str→Bool) (p:Policy) (par:Str) {l:List Node} (h:SizeB l):SizeB (clL A p l par) where
 att:=Ks A p l par h.att
 cnt:=by have:=Kb A p l par; have:=h.cnt; omega
 wt:=by have:=HJ A p l par; have:=h.wt; omega
 tt:=by have:=Iv A p l par; have:=h.tt; omega
end Go.Abs.F
end
