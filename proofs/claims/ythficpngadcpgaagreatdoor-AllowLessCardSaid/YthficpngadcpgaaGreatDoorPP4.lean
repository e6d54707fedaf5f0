/-
  Plain: nodes with where they stand, each ahead of its kids; the first one that is not allowed. No program in sight. No condition.
  What the program's functions for nodes that are allowed answer. No condition.
  What allow's Odd and Nodes answer, of Holds' answers. No condition.
  AllowNothing's answer. No condition.
-/
import Derived.Test.YthficpngadcpgaaGreatDoorPP3
set_option linter.unusedVariables false
set_option linter.unusedSimpArgs false
set_option linter.unusedSectionVars false
section
set_option maxHeartbeats 4000000
set_option maxRecDepth 100000
namespace Go.Abs.F
open Go.Proofs
abbrev Pl:Type:=(Int × Str) × Node
mutual
def plK:Node→List Pl
 | ⟨k,nm,_,_,ks⟩=>plL k nm ks
def plL:Int→Str→List Node→List Pl
 | _,_,[]=>[]
 | k,par,n::l=>((k,par),n)::(plK n++plL k par l)
end
theorem tC (n:Node):plK n=plL n.kind n.name n.kids:=by cases n; simp [plK]
def plV (x:Pl):V:=.tup [.strct [.int .i64 x.1.1,.str x.1.2],x.2.v]
abbrev Lv:Type:=(Int × Str) × List Node
def mV (x:Lv):V:=.strct [.int .i64 x.1.1,.str x.1.2,.seq 5 (x.2.map Node.v)]
def tA:List Lv→List Pl
 | []=>[]
 | x::S=>tA S++plL x.1.1 x.1.2 x.2
theorem mA:∀ (S:List Lv) (x:Lv),tA (S++[x])=plL x.1.1 x.1.2 x.2++tA S
 | [],x=>by simp [tA]
 | y::S,x=>by simp [tA,mA S x]
def wS:List Lv→Nat
 | []=>0
 | x::S=>1 + 2 * ai x.2 + wS S
theorem qn:∀ (a b:List Lv),wS (a++b)=wS a + wS b
 | [],b=>by simp [wS]
 | x::a,b=>by simp only [List.cons_append,wS,qn a b]; omega
theorem JF:∀ S:List Lv,S.length≤wS S
 | []=>by simp
 | x::S=>by have:=JF S; simp only [List.length_cons,wS]; omega
theorem Mb:∀ (l:List Node) (k:Int) (par:Str),(plL k par l).length=ai l:=by
 refine aH (fun k par=>by simp [plL,ai]) ?_
 intro n l h1 h2 k par
 simp only [plL,List.length_cons,List.length_append,tC,ai,dr,h1,h2]
 omega
def qy {α:Type} (t:α→Bool):Nat→List α→Int
 | _,[]=>-1
 | i,x::l=>if t x then qy t (i + 1) l else i
theorem Fk {α:Type} (t:α→Bool):∀ (l:List α) (i k:Nat) (x:α),l[i]?=some x→(l.take i).all t=true→t x=false→qy t k l=(k + i:Nat)
 | [],i,k,x,h,_,_=>by simp at h
 | y::l,0,k,x,h,_,hx=>by
   simp at h
   subst h
   simp [qy,hx]
 | y::l,i + 1,k,x,h,ha,hx=>by
   simp only [List.take_succ_cons,List.all_cons,Bool.and_eq_true] at ha
   simp only [qy]
   rw [if_pos ha.1,Fk t l i (k + 1) x (by simpa using h) ha.2 hx]
   congr 1
   omega
theorem BP {α:Type} (t:α→Bool):∀ (l:List α) (k:Nat),l.all t=true→qy t k l=-1
 | [],k,_=>rfl
 | y::l,k,ha=>by
   simp only [List.all_cons,Bool.and_eq_true] at ha
   simp only [qy]
   rw [if_pos ha.1,BP t l (k + 1) ha.2]
end Go.Abs.F
end
section
set_option maxHeartbeats 16000000
set_option maxRecDepth 100000
namespace Go.Abs.F
open Go.Proofs
attribute [-simp] getElem?_pos Option.not_isSome List.map_map
theorem ql {Φ:Ctr} {σ:St} {ks:List Nat} {a b:OT} {Q:Ex→St→Prop} (S:St) (h:∀ Q:Ex→St→Prop,Q .norm S→qm Φ a b (GC Q ks) σ) (k:Q .norm S):qm Φ a b (GC Q ks) σ:=h Q k
theorem vc (t:Pl→Bool) (l:List Node) (hc:ai l < 1000):
 FnH Tryz.prog gy [0] [.ref 0 0,.ptr 1 0] [some (.gh (dp plV t (plL 0 [] l))),some (.box [.seq 5 (l.map Node.v)])] (.tup []) [some (.gh [])]:=by
 refine FnH.of_image mixed lM uA rfl fun ho hh=>?_
 unfold mg
 clear ho hh
 simp (disch:=omega) [-List.reduceReplicate]
 refine am (fun (S:List Lv)=>⟨[(0,.ref 0 0),(3,.ref 1 S.length)],[some (.gh (dp plV t (tA S))),some (.arr gq 3 (S.map mV))]⟩)
  (fun S=>wS S≤2001) (fun S=>wS S) [] _ [((0,[]),l)] rfl (by simp [mV,tA]) (by simp [wS]; omega) ?_
 rintro S hw N hN
 rcases List.eq_nil_or_concat S with rfl | ⟨S',x,rfl⟩
 · simp (disch:=omega) [-List.reduceReplicate,tA,dp]
 · obtain ⟨⟨k,par⟩,left⟩:=x
   simp only [List.concat_eq_append] at *
   have hsl:S'.length≤2001:=by have:=JF (S'++[((k,par),left)]); simp at this; omega
   have hws:wS (S'++[((k,par),left)])=wS S' + (1 + 2 * ai left):=by simp [qn,wS]
   have hget:((S'++[((k,par),left)]).map mV)[S'.length]?=some (mV ((k,par),left)):=by simp [getElem?_pos]
   have htk:((S'++[((k,par),left)]).map mV).take S'.length=S'.map mV:=by simp [List.map_append,List.take_append]
   have hlm:((S'++[((k,par),left)]).map mV).length=S'.length + 1:=by simp
   have hl2:(S'++[((k,par),left)]).length=S'.length + 1:=by simp
   rw [mA]
   simp only [hl2]
   cases left with
   | nil=>
     generalize hG:(S'++[((k,par),([]:List Node))]).map mV=G at hget htk hlm
     simp (disch:=omega) [-List.reduceReplicate,mV,hget,htk,hlm,plL]
     exact hN.out _<|Nx.mk S' (by simp) (by omega) (by simp only [hws]; omega)
   | cons n left=>
     generalize hG:(S'++[((k,par),n::left)]).map mV=G at hget htk hlm
     simp (disch:=omega) [-List.reduceReplicate,mV,hget,htk,hlm,plL]
     generalize hY:dp plV t (((k,par),n)::(plK n++(plL k par left++tA S')))=Y
     refine ql ⟨[(0,.ref 0 0),(3,.ref 1 (S'.length + 1)),(4,.eptr 1 (S'.length + 1) S'.length 0),(5,.ptr 2 0),(6,.ptr 3 0)],
      [some (.gh Y),some (.arr gq 3 G),some (.box [.int .i64 k,.str par]),some (.box [.int .i64 n.kind,.str n.name,.seq 2 (n.attrs.map Attr.v),.str n.text,.seq 5 (n.kids.map Node.v)])]⟩ (fun F hF=>?_) ?_
     · clear hN
       repeat' first | (with_reducible exact hF) | (with_reducible refine qm.mk ?_ ?_) | simp (disch:=omega) [-List.reduceReplicate,mV,hget,hlm]
     have tk:(left.map Node.v).take left.length=left.map Node.v:=List.take_of_length_le (by simp)
     have hset:G.set S'.length (.strct [.int .i64 k,.str par,.seq 5 (left.map Node.v)])=S'.map mV++[.strct [.int .i64 k,.str par,.seq 5 (left.map Node.v)]]:=by
      rw [←hG]; simp [mV]
     have hrem:tA (S'++[((k,par),left),((n.kind,n.name),n.kids)])=plK n++(plL k par left++tA S'):=by
      rw [show S'++[((k,par),left),((n.kind,n.name),n.kids)]=(S'++[((k,par),left)])++[((n.kind,n.name),n.kids)] by simp,mA,mA,tC]
     have hw2:wS (S'++[((k,par),left),((n.kind,n.name),n.kids)]) + 1≤wS (S'++[((k,par),n::left)]):=by
      simp only [qn,wS,ai,dr]; omega
     simp (disch:=omega) [-List.reduceReplicate,mV,hget,hlm]
     by_cases ht:t ((k,par),n)=true
     · rw [dp,if_pos ht] at hY
       subst hY
       simp (disch:=omega) [-List.reduceReplicate,plV,hset,tk]
       refine hN.out _<|Nx.mk (S'++[((k,par),left),((n.kind,n.name),n.kids)]) (by simp [hrem,mV]) (by omega) (by omega)
     · rw [dp,if_neg ht] at hY
       subst hY
       simp (disch:=omega) [-List.reduceReplicate,plV,hset,tk]
theorem AZ (l:List Node):FnH Tryz.prog zD [] [.seq 5 (l.map Node.v)] [] (.fn (.func gy) [] [.ptr 0 0]) [some (.box [.seq 5 (l.map Node.v)])]:=by
 refine FnH.of_image mixed AA Ah rfl fun ho hh=>?_
 unfold qe
 clear ho hh
 simp (disch:=omega) [-List.reduceReplicate]
def okQ (H:Allowed→List Attr→Bool) (p:Policy) (x:Pl):Bool:=ml p x.1.1 x.1.2 x.2 && (!decide (x.2.kind=1) || H ((a8 p.elements x.2.name).getD .zero) x.2.attrs)
def vP (H:Allowed→List Attr→Bool) (p:Policy) (l:List Node):Int:=qy (okQ H p) 0 (plL 0 [] l)
abbrev polC (p:Policy):List V:=[.seq 1 (p.top.map .str),.seq 3 (p.elements.map Allowed.v),.seq 1 (p.unwrap.map .str)]
def qi (H:Allowed→List Attr→Bool) (p:Policy) (l:List Node):Prop:=∀ (i:Nat) (x:Pl),(plL 0 [] l)[i]?=some x→((plL 0 [] l).take i).all (okQ H p)=true→ml p x.1.1 x.1.2 x.2=true→x.2.kind=1→
 Fn Tryz.prog nd [((a8 p.elements x.2.name).getD .zero).v,.seq 2 (x.2.attrs.map Attr.v)] (.bool (H ((a8 p.elements x.2.name).getD .zero) x.2.attrs))
theorem rF (H:Allowed→List Attr→Bool) (p:Policy) (l:List Node) (hc:ai l < 1000) (hH:qi H p l):Fn Tryz.prog B4 [p.v,.seq 5 (l.map Node.v)] (.int .i64 (vP H p l)):=by
 refine FnE.fn ?_
 refine FnE.of_rng mixed CF Cr rfl (full:=dp plV (okQ H p) (plL 0 [] l))
  (st:=fun i=>⟨[(2,.ptr 0 0),(4,.ptr 1 0),(5,.ptr 2 0)],[some (.box (polC p)),some (.box [.int .i64 0]),some (.box [.int .i64 i])]⟩)
  (stx:=⟨[(2,.ptr 0 0),(4,.ptr 1 0),(5,.ptr 2 0)],[some (.box (polC p)),some (.box [.int .i64 (vP H p l)]),some (.box [.int .i64 (vP H p l)])]⟩) ?_ ?_ ?_ ?_ ?_ ?_
 · intro i us b h
   obtain ⟨x,h1,h2,h3,h4⟩:=lW _ _ _ _ _ _ h
   simp only [plV,V.tup.injEq] at h2
   subst h2
   rfl
 · exact fun i v h=>qR _ _ _ _ _ h
 · intro ho
   clear ho
   unfold fx
   simp only [r0]
   simp (disch:=omega) [-List.reduceReplicate,ent]
   refine ap [] 0 [] (by simp) (by simp) (by simp) (by simp) (AZ l) (by simp) fun _ _=>?_
   simp (disch:=omega) [-List.reduceReplicate,E2]
   exact ⟨gy,3,⟨rfl,rfl⟩,_,rfl,_,by simp,rfl,enters_of lM (by kernel_rfl) rfl,vc (okQ H p) l hc⟩
 · intro i us b h
   obtain ⟨x,h1,h2,h3,h4⟩:=lW _ _ _ _ _ _ h
   simp only [plV,V.tup.injEq] at h2
   subst h2
   have hil:i < 1000:=by have:=(List.getElem?_eq_some_iff.1 h1).1; rw [Mb] at this; omega
   have hHx:=hH i x h1 h4
   have hodd:okQ H p x=false→vP H p l=i:=fun hx=>by
    have:=Fk _ _ _ 0 _ h1 h4 hx
    simpa [vP] using this
   obtain ⟨⟨k,par⟩,n⟩:=x
   have hst:=vb p k par n
   simp only at hHx
   simp only [okQ] at h3 hodd
   clear h h1 h4
   unfold fx
   simp (disch:=omega) [-List.reduceReplicate,r4]
   refine ac (by simpa using hst) rfl fun _=>?_
   simp (disch:=omega) [-List.reduceReplicate]
   refine BrK.mk (fun h=>?_) (fun h=>?_)
   · simp (disch:=omega) [-List.reduceReplicate,h]
     rw [h] at h3 hodd
     simp only [Bool.true_and] at h3 hodd
     refine BrKd.mk (fun h2=>?_) (fun h2=>?_)
     · have hHx:=hHx h h2
       simp only [h2,decide_true,Bool.not_true,Bool.false_or] at h3 hodd
       simp (disch:=omega) [-List.reduceReplicate,h2]
       refine aK (eK p n.name) (by simp) fun _=>?_
       generalize (a8 p.elements n.name).getD .zero=e at *
       simp (disch:=omega) [-List.reduceReplicate]
       refine ac (by simpa using hHx) rfl fun _=>?_
       simp (disch:=omega) [-List.reduceReplicate]
       refine BrK.mk (fun h4=>?_) (fun h4=>?_)
       · simp (disch:=omega) [-List.reduceReplicate,h4]
         exact j2 (by rw [h3,h4]) rfl
       · simp (disch:=omega) [-List.reduceReplicate,h4]
         exact mP (by rw [h3,h4]) (by rw [hodd h4]; rfl)
     · simp only [h2,decide_false,Bool.not_false,Bool.true_or] at h3 hodd
       simp (disch:=omega) [-List.reduceReplicate,h2]
       exact j2 h3 rfl
   · rw [h] at h3 hodd
     simp only [Bool.false_and,true_implies] at h3 hodd
     simp (disch:=omega) [-List.reduceReplicate,h]
     exact mP h3 (by rw [hodd]; rfl)
 · intro h
   unfold fx
   have h0:vP H p l=-1:=BP _ _ _ ((vi plV (okQ H p) (plL 0 [] l)).1 h)
   rw [h0]
   simp only [r0]
   simp (disch:=omega) [-List.reduceReplicate]
   exact ⟨by simp (disch:=omega) [-List.reduceReplicate],rfl⟩
 · intro h
   exact ⟨by simp (disch:=omega) [-List.reduceReplicate,fx],rfl⟩
def nZ (H:Allowed→List Attr→Bool) (p:Policy) (l:List Node):Bool:=mn l && decide (vP H p l < 0)
theorem eM (H:Allowed→List Attr→Bool) (p:Policy) (l:List Node) (hf:al ky l) (hc:ai l < 1000) (hH:mn l=true→qi H p l):Fn Tryz.prog iB [p.v,.seq 5 (l.map Node.v)] (.bool (nZ H p l)):=by
 refine Fn.of_image mixed xk wN rfl fun ho=>?_
 unfold nM
 simp only [oks,ok,and_true] at ho
 clear ho
 simp (disch:=omega) [-List.reduceReplicate,nZ]
 refine ac (u7 l hf hc) rfl fun _=>?_
 simp (disch:=omega) [-List.reduceReplicate]
 refine BrK.mk (fun h=>?_) (fun h=>?_)
 · simp (disch:=omega) [-List.reduceReplicate,h]
   refine ac (by simpa using rF H p l hc (hH h)) rfl fun _=>?_
   simp (disch:=omega) [-List.reduceReplicate]
 · simp (disch:=omega) [-List.reduceReplicate,h]
def H0:Allowed→List Attr→Bool:=fun _ _=>true
def zg:Policy:=⟨[],[],[]⟩
def OO:Policy:=⟨[gI],[],[]⟩
def lz:List Node:=[⟨2,[],[],[120],[]⟩]
theorem Pz (H:Allowed→List Attr→Bool) (p:Policy):qi H p []:=fun i x h=>by simp [plL] at h
theorem A3 (H:Allowed→List Attr→Bool) (p:Policy):qi H p lz:=by
 intro i x h1 h2 h3 h4
 cases i with
 | zero=>simp [plL,lz] at h1; subst h1; simp at h4
 | succ i=>simp [plL,lz,tC] at h1
theorem J0:al ky lz:=by simp [lz,al,dv,ky]
theorem bU:Fn Tryz.prog wg [] (.bool true):=by
 refine Fn.of_image mixed xg wJ rfl fun ho=>?_
 unfold nI
 simp only [oks,ok,and_true] at ho
 clear ho
 have n1:nZ H0 zg []=true:=by decide
 have n2:nZ H0 zg lz=false:=by decide
 have n3:nZ H0 OO lz=true:=by decide
 have n4:vP H0 zg lz=0:=by decide
 have c1:=eM H0 zg [] (by simp [al]) (by simp [ai]) (fun _=>Pz _ _)
 have c2:=eM H0 zg lz J0 (by simp [lz,ai,dr]) (fun _=>A3 _ _)
 have c3:=eM H0 OO lz J0 (by simp [lz,ai,dr]) (fun _=>A3 _ _)
 have c4:=rF H0 zg lz (by simp [lz,ai,dr]) (A3 _ _)
 rw [n1] at c1
 rw [n2] at c2
 rw [n3] at c3
 rw [n4] at c4
 simp (disch:=omega) [-List.reduceReplicate]
 refine ac (by simpa [zg] using c1) rfl fun _=>?_
 simp (disch:=omega) [-List.reduceReplicate]
 refine ac (by simpa [zg,lz] using c2) rfl fun _=>?_
 simp (disch:=omega) [-List.reduceReplicate]
 refine ac (by simpa [OO,lz,gI] using c3) rfl fun _=>?_
 simp (disch:=omega) [-List.reduceReplicate]
 refine ac (by simpa [zg,lz] using c4) rfl fun _=>?_
 simp (disch:=omega) [-List.reduceReplicate]
end Go.Abs.F
end
section
set_option maxHeartbeats 16000000
set_option maxRecDepth 100000
namespace Go.Abs.F
open Go.Proofs
attribute [-simp] getElem?_pos Option.not_isSome List.map_map
end Go.Abs.F

end
