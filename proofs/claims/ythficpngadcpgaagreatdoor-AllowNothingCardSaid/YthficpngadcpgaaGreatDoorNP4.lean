/-
  Plain: nodes with where they stand, each ahead of its kids; the first one that is not allowed. No program in sight. No condition.
  What the program's functions for nodes that are allowed answer. No condition.
  What allow's Odd and Nodes answer, of Holds' answers. No condition.
  AllowNothing's answer. No condition.
-/
import Derived.Test.YthficpngadcpgaaGreatDoorNP3
set_option linter.unusedVariables false
set_option linter.unusedSimpArgs false
set_option linter.unusedSectionVars false
section
set_option maxHeartbeats 4000000
set_option maxRecDepth 100000
namespace Go.Abs.F
open Go.Proofs
abbrev Pl:Type:=(Int × Str) × Node
mutual
def plK:Node→List Pl
 | ⟨k,nm,_,_,ks⟩=>plL k nm ks
def plL:Int→Str→List Node→List Pl
 | _,_,[]=>[]
 | k,par,n::l=>((k,par),n)::(plK n++plL k par l)
end
theorem tQ (n:Node):plK n=plL n.kind n.name n.kids:=by cases n; simp [plK]
def plV (x:Pl):V:=.tup [.strct [.int .i64 x.1.1,.str x.1.2],x.2.v]
abbrev Lv:Type:=(Int × Str) × List Node
def gW (x:Lv):V:=.strct [.int .i64 x.1.1,.str x.1.2,.seq 5 (x.2.map Node.v)]
def lS:List Lv→List Pl
 | []=>[]
 | x::S=>lS S++plL x.1.1 x.1.2 x.2
theorem gL:∀ (S:List Lv) (x:Lv),lS (S++[x])=plL x.1.1 x.1.2 x.2++lS S
 | [],x=>by simp [lS]
 | y::S,x=>by simp [lS,gL S x]
def wS:List Lv→Nat
 | []=>0
 | x::S=>1 + 2 * ak x.2 + wS S
theorem jG:∀ (a b:List Lv),wS (a++b)=wS a + wS b
 | [],b=>by simp [wS]
 | x::a,b=>by simp only [List.cons_append,wS,jG a b]; omega
theorem yq:∀ S:List Lv,S.length≤wS S
 | []=>by simp
 | x::S=>by have:=yq S; simp only [List.length_cons,wS]; omega
theorem AM:∀ (l:List Node) (k:Int) (par:Str),(plL k par l).length=ak l:=by
 refine a8 (fun k par=>by simp [plL,ak]) ?_
 intro n l h1 h2 k par
 simp only [plL,List.length_cons,List.length_append,tQ,ak,cE,h1,h2]
 omega
def r4 {α:Type} (t:α→Bool):Nat→List α→Int
 | _,[]=>-1
 | i,x::l=>if t x then r4 t (i + 1) l else i
theorem u5 {α:Type} (t:α→Bool):∀ (l:List α) (i k:Nat) (x:α),l[i]?=some x→(l.take i).all t=true→t x=false→r4 t k l=(k + i:Nat)
 | [],i,k,x,h,_,_=>by simp at h
 | y::l,0,k,x,h,_,hx=>by
   simp at h
   subst h
   simp [r4,hx]
 | y::l,i + 1,k,x,h,ha,hx=>by
   simp only [List.take_succ_cons,List.all_cons,Bool.and_eq_true] at ha
   simp only [r4]
   rw [if_pos ha.1,u5 t l i (k + 1) x (by simpa using h) ha.2 hx]
   congr 1
   omega
theorem r0 {α:Type} (t:α→Bool):∀ (l:List α) (k:Nat),l.all t=true→r4 t k l=-1
 | [],k,_=>rfl
 | y::l,k,ha=>by
   simp only [List.all_cons,Bool.and_eq_true] at ha
   simp only [r4]
   rw [if_pos ha.1,r0 t l (k + 1) ha.2]
end Go.Abs.F
end
section
set_option maxHeartbeats 16000000
set_option maxRecDepth 100000
namespace Go.Abs.F
open Go.Proofs
attribute [-simp] getElem?_pos Option.not_isSome List.map_map
theorem vv {Φ:Ctr} {σ:St} {ks:List Nat} {a b:OT} {Q:Ex→St→Prop} (S:St) (h:∀ Q:Ex→St→Prop,Q .norm S→pK Φ a b (AY Q ks) σ) (k:Q .norm S):pK Φ a b (AY Q ks) σ:=h Q k
theorem mO (t:Pl→Bool) (l:List Node) (hc:ak l < 1000):
 FnH Tryz.prog dI [0] [.ref 0 0,.ptr 1 0] [some (.gh (b5 plV t (plL 0 [] l))),some (.box [.seq 5 (l.map Node.v)])] (.tup []) [some (.gh [])]:=by
 refine FnH.of_image mixed gp mt rfl fun ho hh=>?_
 unfold gE
 clear ho hh
 simp (disch:=omega) [-List.reduceReplicate]
 refine ax (fun (S:List Lv)=>⟨[(0,.ref 0 0),(3,.ref 1 S.length)],[some (.gh (b5 plV t (lS S))),some (.arr dE 3 (S.map gW))]⟩)
  (fun S=>wS S≤2001) (fun S=>wS S) [] _ [((0,[]),l)] rfl (by simp [gW,lS]) (by simp [wS]; omega) ?_
 rintro S hw N hN
 rcases List.eq_nil_or_concat S with rfl | ⟨S',x,rfl⟩
 · simp (disch:=omega) [-List.reduceReplicate,lS,b5]
 · obtain ⟨⟨k,par⟩,left⟩:=x
   simp only [List.concat_eq_append] at *
   have hsl:S'.length≤2001:=by have:=yq (S'++[((k,par),left)]); simp at this; omega
   have hws:wS (S'++[((k,par),left)])=wS S' + (1 + 2 * ak left):=by simp [jG,wS]
   have hget:((S'++[((k,par),left)]).map gW)[S'.length]?=some (gW ((k,par),left)):=by simp [getElem?_pos]
   have htk:((S'++[((k,par),left)]).map gW).take S'.length=S'.map gW:=by simp [List.map_append,List.take_append]
   have hlm:((S'++[((k,par),left)]).map gW).length=S'.length + 1:=by simp
   have hl2:(S'++[((k,par),left)]).length=S'.length + 1:=by simp
   rw [gL]
   simp only [hl2]
   cases left with
   | nil=>
     generalize hG:(S'++[((k,par),([]:List Node))]).map gW=G at hget htk hlm
     simp (disch:=omega) [-List.reduceReplicate,gW,hget,htk,hlm,plL]
     exact hN.out _<|Nx.mk S' (by simp) (by omega) (by simp only [hws]; omega)
   | cons n left=>
     generalize hG:(S'++[((k,par),n::left)]).map gW=G at hget htk hlm
     simp (disch:=omega) [-List.reduceReplicate,gW,hget,htk,hlm,plL]
     generalize hY:b5 plV t (((k,par),n)::(plK n++(plL k par left++lS S')))=Y
     refine vv ⟨[(0,.ref 0 0),(3,.ref 1 (S'.length + 1)),(4,.eptr 1 (S'.length + 1) S'.length 0),(5,.ptr 2 0),(6,.ptr 3 0)],
      [some (.gh Y),some (.arr dE 3 G),some (.box [.int .i64 k,.str par]),some (.box [.int .i64 n.kind,.str n.name,.seq 2 (n.attrs.map Attr.v),.str n.text,.seq 5 (n.kids.map Node.v)])]⟩ (fun F hF=>?_) ?_
     · clear hN
       repeat' first | (with_reducible exact hF) | (with_reducible refine pK.mk ?_ ?_) | simp (disch:=omega) [-List.reduceReplicate,gW,hget,hlm]
     have tk:(left.map Node.v).take left.length=left.map Node.v:=List.take_of_length_le (by simp)
     have hset:G.set S'.length (.strct [.int .i64 k,.str par,.seq 5 (left.map Node.v)])=S'.map gW++[.strct [.int .i64 k,.str par,.seq 5 (left.map Node.v)]]:=by
      rw [←hG]; simp [gW]
     have hrem:lS (S'++[((k,par),left),((n.kind,n.name),n.kids)])=plK n++(plL k par left++lS S'):=by
      rw [show S'++[((k,par),left),((n.kind,n.name),n.kids)]=(S'++[((k,par),left)])++[((n.kind,n.name),n.kids)] by simp,gL,gL,tQ]
     have hw2:wS (S'++[((k,par),left),((n.kind,n.name),n.kids)]) + 1≤wS (S'++[((k,par),n::left)]):=by
      simp only [jG,wS,ak,cE]; omega
     simp (disch:=omega) [-List.reduceReplicate,gW,hget,hlm]
     by_cases ht:t ((k,par),n)=true
     · rw [b5,if_pos ht] at hY
       subst hY
       simp (disch:=omega) [-List.reduceReplicate,plV,hset,tk]
       refine hN.out _<|Nx.mk (S'++[((k,par),left),((n.kind,n.name),n.kids)]) (by simp [hrem,gW]) (by omega) (by omega)
     · rw [b5,if_neg ht] at hY
       subst hY
       simp (disch:=omega) [-List.reduceReplicate,plV,hset,tk]
theorem rh (l:List Node):FnH Tryz.prog qc [] [.seq 5 (l.map Node.v)] [] (.fn (.func dI) [] [.ptr 0 0]) [some (.box [.seq 5 (l.map Node.v)])]:=by
 refine FnH.of_image mixed qS qD rfl fun ho hh=>?_
 unfold jD
 clear ho hh
 simp (disch:=omega) [-List.reduceReplicate]
def okQ (H:Allowed→List Attr→Bool) (p:Policy) (x:Pl):Bool:=dp p x.1.1 x.1.2 x.2 && (!decide (x.2.kind=1) || H ((bq p.elements x.2.name).getD .zero) x.2.attrs)
def lZ (H:Allowed→List Attr→Bool) (p:Policy) (l:List Node):Int:=r4 (okQ H p) 0 (plL 0 [] l)
abbrev polC (p:Policy):List V:=[.seq 1 (p.top.map .str),.seq 3 (p.elements.map Allowed.v),.seq 1 (p.unwrap.map .str)]
def jE (H:Allowed→List Attr→Bool) (p:Policy) (l:List Node):Prop:=∀ (i:Nat) (x:Pl),(plL 0 [] l)[i]?=some x→((plL 0 [] l).take i).all (okQ H p)=true→dp p x.1.1 x.1.2 x.2=true→x.2.kind=1→
 Fn Tryz.prog nC [((bq p.elements x.2.name).getD .zero).v,.seq 2 (x.2.attrs.map Attr.v)] (.bool (H ((bq p.elements x.2.name).getD .zero) x.2.attrs))
theorem d4 (H:Allowed→List Attr→Bool) (p:Policy) (l:List Node) (hc:ak l < 1000) (hH:jE H p l):Fn Tryz.prog sf [p.v,.seq 5 (l.map Node.v)] (.int .i64 (lZ H p l)):=by
 refine FnE.fn ?_
 refine FnE.of_rng mixed sM sA rfl (full:=b5 plV (okQ H p) (plL 0 [] l))
  (st:=fun i=>⟨[(2,.ptr 0 0),(4,.ptr 1 0),(5,.ptr 2 0)],[some (.box (polC p)),some (.box [.int .i64 0]),some (.box [.int .i64 i])]⟩)
  (stx:=⟨[(2,.ptr 0 0),(4,.ptr 1 0),(5,.ptr 2 0)],[some (.box (polC p)),some (.box [.int .i64 (lZ H p l)]),some (.box [.int .i64 (lZ H p l)])]⟩) ?_ ?_ ?_ ?_ ?_ ?_
 · intro i us b h
   obtain ⟨x,h1,h2,h3,h4⟩:=gw _ _ _ _ _ _ h
   simp only [plV,V.tup.injEq] at h2
   subst h2
   rfl
 · exact fun i v h=>jU _ _ _ _ _ h
 · intro ho
   clear ho
   unfold dd
   simp only [kF]
   simp (disch:=omega) [-List.reduceReplicate,ent]
   refine eA [] 0 [] (by simp) (by simp) (by simp) (by simp) (rh l) (by simp) fun _ _=>?_
   simp (disch:=omega) [-List.reduceReplicate,uP]
   exact ⟨dI,3,⟨rfl,rfl⟩,_,rfl,_,by simp,rfl,enters_of gp (by kernel_rfl) rfl,mO (okQ H p) l hc⟩
 · intro i us b h
   obtain ⟨x,h1,h2,h3,h4⟩:=gw _ _ _ _ _ _ h
   simp only [plV,V.tup.injEq] at h2
   subst h2
   have hil:i < 1000:=by have:=(List.getElem?_eq_some_iff.1 h1).1; rw [AM] at this; omega
   have hHx:=hH i x h1 h4
   have hodd:okQ H p x=false→lZ H p l=i:=fun hx=>by
    have:=u5 _ _ _ 0 _ h1 h4 hx
    simpa [lZ] using this
   obtain ⟨⟨k,par⟩,n⟩:=x
   have hst:=mN p k par n
   simp only at hHx
   simp only [okQ] at h3 hodd
   clear h h1 h4
   unfold dd
   simp (disch:=omega) [-List.reduceReplicate,kG]
   refine ae (by simpa using hst) rfl fun _=>?_
   simp (disch:=omega) [-List.reduceReplicate]
   refine BrK.mk (fun h=>?_) (fun h=>?_)
   · simp (disch:=omega) [-List.reduceReplicate,h]
     rw [h] at h3 hodd
     simp only [Bool.true_and] at h3 hodd
     refine BrKd.mk (fun h2=>?_) (fun h2=>?_)
     · have hHx:=hHx h h2
       simp only [h2,decide_true,Bool.not_true,Bool.false_or] at h3 hodd
       simp (disch:=omega) [-List.reduceReplicate,h2]
       refine aS (cN p n.name) (by simp) fun _=>?_
       generalize (bq p.elements n.name).getD .zero=e at *
       simp (disch:=omega) [-List.reduceReplicate]
       refine ae (by simpa using hHx) rfl fun _=>?_
       simp (disch:=omega) [-List.reduceReplicate]
       refine BrK.mk (fun h4=>?_) (fun h4=>?_)
       · simp (disch:=omega) [-List.reduceReplicate,h4]
         exact fB (by rw [h3,h4]) rfl
       · simp (disch:=omega) [-List.reduceReplicate,h4]
         exact gV (by rw [h3,h4]) (by rw [hodd h4]; rfl)
     · simp only [h2,decide_false,Bool.not_false,Bool.true_or] at h3 hodd
       simp (disch:=omega) [-List.reduceReplicate,h2]
       exact fB h3 rfl
   · rw [h] at h3 hodd
     simp only [Bool.false_and,true_implies] at h3 hodd
     simp (disch:=omega) [-List.reduceReplicate,h]
     exact gV h3 (by rw [hodd]; rfl)
 · intro h
   unfold dd
   have h0:lZ H p l=-1:=r0 _ _ _ ((mR plV (okQ H p) (plL 0 [] l)).1 h)
   rw [h0]
   simp only [kF]
   simp (disch:=omega) [-List.reduceReplicate]
   exact ⟨by simp (disch:=omega) [-List.reduceReplicate],rfl⟩
 · intro h
   exact ⟨by simp (disch:=omega) [-List.reduceReplicate,dd],rfl⟩
def iF (H:Allowed→List Attr→Bool) (p:Policy) (l:List Node):Bool:=ll l && decide (lZ H p l < 0)
theorem cP (H:Allowed→List Attr→Bool) (p:Policy) (l:List Node) (hf:az gq l) (hc:ak l < 1000) (hH:ll l=true→jE H p l):Fn Tryz.prog nB [p.v,.seq 5 (l.map Node.v)] (.bool (iF H p l)):=by
 refine Fn.of_image mixed ol nU rfl fun ho=>?_
 unfold it
 simp only [oks,ok,and_true] at ho
 clear ho
 simp (disch:=omega) [-List.reduceReplicate,iF]
 refine ae (mL l hf hc) rfl fun _=>?_
 simp (disch:=omega) [-List.reduceReplicate]
 refine BrK.mk (fun h=>?_) (fun h=>?_)
 · simp (disch:=omega) [-List.reduceReplicate,h]
   refine ae (by simpa using d4 H p l hc (hH h)) rfl fun _=>?_
   simp (disch:=omega) [-List.reduceReplicate]
 · simp (disch:=omega) [-List.reduceReplicate,h]
def H0:Allowed→List Attr→Bool:=fun _ _=>true
def pT:Policy:=⟨[],[],[]⟩
def CB:Policy:=⟨[fG],[],[]⟩
def gb:List Node:=[⟨2,[],[],[120],[]⟩]
theorem zi (H:Allowed→List Attr→Bool) (p:Policy):jE H p []:=fun i x h=>by simp [plL] at h
theorem zh (H:Allowed→List Attr→Bool) (p:Policy) (hp:p.top=[]) (l:List Node):jE H p l:=by
 intro i x h1 h2 h3 h4
 cases l with
 | nil=>simp [plL] at h1
 | cons n l=>
   have h0:dp p 0 [] n=false:=by simp [dp,ji,hp,bk]
   cases i with
   | zero=>
     simp [plL] at h1
     subst h1
     rw [h0] at h3
     cases h3
   | succ i=>simp [plL,okQ,h0] at h2
theorem rn (H:Allowed→List Attr→Bool) (p:Policy):jE H p gb:=by
 intro i x h1 h2 h3 h4
 cases i with
 | zero=>simp [plL,gb] at h1; subst h1; simp at h4
 | succ i=>simp [plL,gb,tQ] at h1
theorem yL:az gq gb:=by simp [gb,az,gT,gq]
theorem ib:Fn Tryz.prog nz [] (.bool true):=by
 refine Fn.of_image mixed og nS rfl fun ho=>?_
 unfold iq
 simp only [oks,ok,and_true] at ho
 clear ho
 have n1:iF H0 pT []=true:=by decide
 have n2:iF H0 pT gb=false:=by decide
 have n3:iF H0 CB gb=true:=by decide
 have n4:lZ H0 pT gb=0:=by decide
 have c1:=cP H0 pT [] (by simp [az]) (by simp [ak]) (fun _=>zi _ _)
 have c2:=cP H0 pT gb yL (by simp [gb,ak,cE]) (fun _=>rn _ _)
 have c3:=cP H0 CB gb yL (by simp [gb,ak,cE]) (fun _=>rn _ _)
 have c4:=d4 H0 pT gb (by simp [gb,ak,cE]) (rn _ _)
 rw [n1] at c1
 rw [n2] at c2
 rw [n3] at c3
 rw [n4] at c4
 simp (disch:=omega) [-List.reduceReplicate]
 refine ae (by simpa [pT] using c1) rfl fun _=>?_
 simp (disch:=omega) [-List.reduceReplicate]
 refine ae (by simpa [pT,gb] using c2) rfl fun _=>?_
 simp (disch:=omega) [-List.reduceReplicate]
 refine ae (by simpa [CB,gb,fG] using c3) rfl fun _=>?_
 simp (disch:=omega) [-List.reduceReplicate]
 refine ae (by simpa [pT,gb] using c4) rfl fun _=>?_
 simp (disch:=omega) [-List.reduceReplicate]
theorem u4 (H:Allowed→List Attr→Bool) (p:Policy) (hp:p.top=[]) (l:List Node) (hl:¬l=[]):lZ H p l=0:=by
 cases l with
 | nil=>exact (hl rfl).elim
 | cons n l=>
   have h0:dp p 0 [] n=false:=by simp [dp,ji,hp,bk]
   simp [lZ,plL,r4,okQ,h0]
theorem gu (p:Policy) (l:List Node) (hR:∀ e∈p.elements,∀ r∈e.rules,r.value.regex.length≤1125899906842624):FnE Tryz.prog aH [p.v,.seq 5 (l.map Node.v)] (.bool true):=by
 refine FnE.of_image mixed bS gn rfl fun ho=>?_
 unfold dc
 clear ho
 obtain ⟨hy,hc,ht⟩:=sO l
 have hf:=Bc _ hy (by omega)
 have hn0:iF H0 ⟨[],(bA p).elements,(bA p).unwrap⟩ (cc l)=decide ((cc l).length=0):=by
  by_cases hl:cc l=[]
  · rw [hl]; rfl
  · have:=u4 H0 ⟨[],(bA p).elements,(bA p).unwrap⟩ rfl (cc l) hl
    have h2:¬(cc l).length=0:=fun h=>hl (List.eq_nil_of_length_eq_zero h)
    simp [iF,this,h2]
 have c1:=cP H0 ⟨[],(bA p).elements,(bA p).unwrap⟩ (cc l) hf (by omega) (fun _=>zh _ _ rfl _)
 have c2:=d4 H0 ⟨[],(bA p).elements,(bA p).unwrap⟩ (cc l) (by omega) (zh _ _ rfl _)
 have c3:=d4 H0 ⟨[],(bA p).elements,(bA p).unwrap⟩ [] (by simp [ak]) (zi _ _)
 have ho:=u4 H0 ⟨[],(bA p).elements,(bA p).unwrap⟩ rfl (cc l)
 rw [hn0] at c1
 rw [show lZ H0 ⟨[],(bA p).elements,(bA p).unwrap⟩ []=-1 from rfl] at c3
 simp (disch:=omega) [-List.reduceReplicate]
 refine aS (by simpa using q7 p hR) (by simp) fun _=>?_
 simp (disch:=omega) [-List.reduceReplicate]
 refine aS (rc l) (by simp) fun _=>?_
 generalize bA p=g at *
 generalize cc l=n at *
 have hlen:n.length≤1000:=by have:=fk n; omega
 simp (disch:=omega) [-List.reduceReplicate]
 refine ae (by simpa using c1) rfl fun _=>?_
 simp (disch:=omega) [-List.reduceReplicate]
 refine BrK.mk (fun h=>?_) (fun h=>?_)
 · simp (disch:=omega) [-List.reduceReplicate,h]
   refine ae (by simpa using c3) rfl fun _=>?_
   simp (disch:=omega) [-List.reduceReplicate,h]
   refine ae ib rfl fun _=>?_
   simp (disch:=omega) [-List.reduceReplicate,h]
 · have hn:¬n=[]:=by simpa using h
   rw [ho hn] at c2
   simp (disch:=omega) [-List.reduceReplicate,h]
   refine ae (by simpa using c2) rfl fun _=>?_
   simp (disch:=omega) [-List.reduceReplicate,h]
   refine ae (by simpa using c3) rfl fun _=>?_
   simp (disch:=omega) [-List.reduceReplicate,h]
   refine ae ib rfl fun _=>?_
   simp (disch:=omega) [-List.reduceReplicate,h]
end Go.Abs.F
end
