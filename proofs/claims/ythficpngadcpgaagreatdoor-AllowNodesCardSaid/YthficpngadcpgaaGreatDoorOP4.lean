/-
  Plain: nodes with where they stand, each ahead of its kids; the first one that is not allowed. No program in sight. No condition.
  What the program's functions for nodes that are allowed answer. No condition.
  What allow's Odd and Nodes answer, of Holds' answers. No condition.
  AllowNothing's answer. No condition.
-/
import Derived.Test.YthficpngadcpgaaGreatDoorOP3
set_option linter.unusedVariables false
set_option linter.unusedSimpArgs false
set_option linter.unusedSectionVars false
section
set_option maxHeartbeats 4000000
set_option maxRecDepth 100000
namespace Go.Abs.F
open Go.Proofs
abbrev Pl:Type:=(Int × Str) × Node
mutual
def plK:Node→List Pl
 | ⟨k,nm,_,_,ks⟩=>plL k nm ks
def plL:Int→Str→List Node→List Pl
 | _,_,[]=>[]
 | k,par,n::l=>((k,par),n)::(plK n++plL k par l)
end
theorem vG (n:Node):plK n=plL n.kind n.name n.kids:=by cases n; simp [plK]
def plV (x:Pl):V:=.tup [.strct [.int .i64 x.1.1,.str x.1.2],x.2.v]
abbrev Lv:Type:=(Int × Str) × List Node
def n5 (x:Lv):V:=.strct [.int .i64 x.1.1,.str x.1.2,.seq 5 (x.2.map Node.v)]
def vE:List Lv→List Pl
 | []=>[]
 | x::S=>vE S++plL x.1.1 x.1.2 x.2
theorem nE:∀ (S:List Lv) (x:Lv),vE (S++[x])=plL x.1.1 x.1.2 x.2++vE S
 | [],x=>by simp [vE]
 | y::S,x=>by simp [vE,nE S x]
def wS:List Lv→Nat
 | []=>0
 | x::S=>1 + 2 * am x.2 + wS S
theorem r9:∀ (a b:List Lv),wS (a++b)=wS a + wS b
 | [],b=>by simp [wS]
 | x::a,b=>by simp only [List.cons_append,wS,r9 a b]; omega
theorem Nl:∀ S:List Lv,S.length≤wS S
 | []=>by simp
 | x::S=>by have:=Nl S; simp only [List.length_cons,wS]; omega
theorem PO:∀ (l:List Node) (k:Int) (par:Str),(plL k par l).length=am l:=by
 refine aB (fun k par=>by simp [plL,am]) ?_
 intro n l h1 h2 k par
 simp only [plL,List.length_cons,List.length_append,vG,am,dJ,h1,h2]
 omega
def sq {α:Type} (t:α→Bool):Nat→List α→Int
 | _,[]=>-1
 | i,x::l=>if t x then sq t (i + 1) l else i
theorem I1 {α:Type} (t:α→Bool):∀ (l:List α) (i k:Nat) (x:α),l[i]?=some x→(l.take i).all t=true→t x=false→sq t k l=(k + i:Nat)
 | [],i,k,x,h,_,_=>by simp at h
 | y::l,0,k,x,h,_,hx=>by
   simp at h
   subst h
   simp [sq,hx]
 | y::l,i + 1,k,x,h,ha,hx=>by
   simp only [List.take_succ_cons,List.all_cons,Bool.and_eq_true] at ha
   simp only [sq]
   rw [if_pos ha.1,I1 t l i (k + 1) x (by simpa using h) ha.2 hx]
   congr 1
   omega
theorem ER {α:Type} (t:α→Bool):∀ (l:List α) (k:Nat),l.all t=true→sq t k l=-1
 | [],k,_=>rfl
 | y::l,k,ha=>by
   simp only [List.all_cons,Bool.and_eq_true] at ha
   simp only [sq]
   rw [if_pos ha.1,ER t l (k + 1) ha.2]
end Go.Abs.F
end
section
set_option maxHeartbeats 16000000
set_option maxRecDepth 100000
namespace Go.Abs.F
open Go.Proofs
attribute [-simp] getElem?_pos Option.not_isSome List.map_map
theorem r7 {Φ:Ctr} {σ:St} {ks:List Nat} {a b:OT} {Q:Ex→St→Prop} (S:St) (h:∀ Q:Ex→St→Prop,Q .norm S→r8 Φ a b (Ka Q ks) σ) (k:Q .norm S):r8 Φ a b (Ka Q ks) σ:=h Q k
theorem xx (t:Pl→Bool) (l:List Node) (hc:am l < 1000):
 FnH Tryz.prog il [0] [.ref 0 0,.ptr 1 0] [some (.gh (dI plV t (plL 0 [] l))),some (.box [.seq 5 (l.map Node.v)])] (.tup []) [some (.gh [])]:=by
 refine FnH.of_image mixed mM wH rfl fun ho hh=>?_
 unfold nl
 clear ho hh
 simp (disch:=omega) [-List.reduceReplicate]
 refine ak (fun (S:List Lv)=>⟨[(0,.ref 0 0),(3,.ref 1 S.length)],[some (.gh (dI plV t (vE S))),some (.arr hZ 3 (S.map n5))]⟩)
  (fun S=>wS S≤2001) (fun S=>wS S) [] _ [((0,[]),l)] rfl (by simp [n5,vE]) (by simp [wS]; omega) ?_
 rintro S hw N hN
 rcases List.eq_nil_or_concat S with rfl | ⟨S',x,rfl⟩
 · simp (disch:=omega) [-List.reduceReplicate,vE,dI]
 · obtain ⟨⟨k,par⟩,left⟩:=x
   simp only [List.concat_eq_append] at *
   have hsl:S'.length≤2001:=by have:=Nl (S'++[((k,par),left)]); simp at this; omega
   have hws:wS (S'++[((k,par),left)])=wS S' + (1 + 2 * am left):=by simp [r9,wS]
   have hget:((S'++[((k,par),left)]).map n5)[S'.length]?=some (n5 ((k,par),left)):=by simp [getElem?_pos]
   have htk:((S'++[((k,par),left)]).map n5).take S'.length=S'.map n5:=by simp [List.map_append,List.take_append]
   have hlm:((S'++[((k,par),left)]).map n5).length=S'.length + 1:=by simp
   have hl2:(S'++[((k,par),left)]).length=S'.length + 1:=by simp
   rw [nE]
   simp only [hl2]
   cases left with
   | nil=>
     generalize hG:(S'++[((k,par),([]:List Node))]).map n5=G at hget htk hlm
     simp (disch:=omega) [-List.reduceReplicate,n5,hget,htk,hlm,plL]
     exact hN.out _<|Nx.mk S' (by simp) (by omega) (by simp only [hws]; omega)
   | cons n left=>
     generalize hG:(S'++[((k,par),n::left)]).map n5=G at hget htk hlm
     simp (disch:=omega) [-List.reduceReplicate,n5,hget,htk,hlm,plL]
     generalize hY:dI plV t (((k,par),n)::(plK n++(plL k par left++vE S')))=Y
     refine r7 ⟨[(0,.ref 0 0),(3,.ref 1 (S'.length + 1)),(4,.eptr 1 (S'.length + 1) S'.length 0),(5,.ptr 2 0),(6,.ptr 3 0)],
      [some (.gh Y),some (.arr hZ 3 G),some (.box [.int .i64 k,.str par]),some (.box [.int .i64 n.kind,.str n.name,.seq 2 (n.attrs.map Attr.v),.str n.text,.seq 5 (n.kids.map Node.v)])]⟩ (fun F hF=>?_) ?_
     · clear hN
       repeat' first | (with_reducible exact hF) | (with_reducible refine r8.mk ?_ ?_) | simp (disch:=omega) [-List.reduceReplicate,n5,hget,hlm]
     have tk:(left.map Node.v).take left.length=left.map Node.v:=List.take_of_length_le (by simp)
     have hset:G.set S'.length (.strct [.int .i64 k,.str par,.seq 5 (left.map Node.v)])=S'.map n5++[.strct [.int .i64 k,.str par,.seq 5 (left.map Node.v)]]:=by
      rw [←hG]; simp [n5]
     have hrem:vE (S'++[((k,par),left),((n.kind,n.name),n.kids)])=plK n++(plL k par left++vE S'):=by
      rw [show S'++[((k,par),left),((n.kind,n.name),n.kids)]=(S'++[((k,par),left)])++[((n.kind,n.name),n.kids)] by simp,nE,nE,vG]
     have hw2:wS (S'++[((k,par),left),((n.kind,n.name),n.kids)]) + 1≤wS (S'++[((k,par),n::left)]):=by
      simp only [r9,wS,am,dJ]; omega
     simp (disch:=omega) [-List.reduceReplicate,n5,hget,hlm]
     by_cases ht:t ((k,par),n)=true
     · rw [dI,if_pos ht] at hY
       subst hY
       simp (disch:=omega) [-List.reduceReplicate,plV,hset,tk]
       refine hN.out _<|Nx.mk (S'++[((k,par),left),((n.kind,n.name),n.kids)]) (by simp [hrem,n5]) (by omega) (by omega)
     · rw [dI,if_neg ht] at hY
       subst hY
       simp (disch:=omega) [-List.reduceReplicate,plV,hset,tk]
theorem DX (l:List Node):FnH Tryz.prog Cr [] [.seq 5 (l.map Node.v)] [] (.fn (.func il) [] [.ptr 0 0]) [some (.box [.seq 5 (l.map Node.v)])]:=by
 refine FnH.of_image mixed Dx C5 rfl fun ho hh=>?_
 unfold rW
 clear ho hh
 simp (disch:=omega) [-List.reduceReplicate]
def okQ (H:Allowed→List Attr→Bool) (p:Policy) (x:Pl):Bool:=nr p x.1.1 x.1.2 x.2 && (!decide (x.2.kind=1) || H ((aZ p.elements x.2.name).getD .zero) x.2.attrs)
def x8 (H:Allowed→List Attr→Bool) (p:Policy) (l:List Node):Int:=sq (okQ H p) 0 (plL 0 [] l)
abbrev polC (p:Policy):List V:=[.seq 1 (p.top.map .str),.seq 3 (p.elements.map Allowed.v),.seq 1 (p.unwrap.map .str)]
def rZ (H:Allowed→List Attr→Bool) (p:Policy) (l:List Node):Prop:=∀ (i:Nat) (x:Pl),(plL 0 [] l)[i]?=some x→((plL 0 [] l).take i).all (okQ H p)=true→nr p x.1.1 x.1.2 x.2=true→x.2.kind=1→
 Fn Tryz.prog oC [((aZ p.elements x.2.name).getD .zero).v,.seq 2 (x.2.attrs.map Attr.v)] (.bool (H ((aZ p.elements x.2.name).getD .zero) x.2.attrs))
theorem mW (H:Allowed→List Attr→Bool) (p:Policy) (l:List Node) (hc:am l < 1000) (hH:rZ H p l):Fn Tryz.prog tA [p.v,.seq 5 (l.map Node.v)] (.int .i64 (x8 H p l)):=by
 refine FnE.fn ?_
 refine FnE.of_rng mixed FX FA rfl (full:=dI plV (okQ H p) (plL 0 [] l))
  (st:=fun i=>⟨[(2,.ptr 0 0),(4,.ptr 1 0),(5,.ptr 2 0)],[some (.box (polC p)),some (.box [.int .i64 0]),some (.box [.int .i64 i])]⟩)
  (stx:=⟨[(2,.ptr 0 0),(4,.ptr 1 0),(5,.ptr 2 0)],[some (.box (polC p)),some (.box [.int .i64 (x8 H p l)]),some (.box [.int .i64 (x8 H p l)])]⟩) ?_ ?_ ?_ ?_ ?_ ?_
 · intro i us b h
   obtain ⟨x,h1,h2,h3,h4⟩:=mZ _ _ _ _ _ _ h
   simp only [plV,V.tup.injEq] at h2
   subst h2
   rfl
 · exact fun i v h=>sV _ _ _ _ _ h
 · intro ho
   clear ho
   unfold f6
   simp only [uh]
   simp (disch:=omega) [-List.reduceReplicate,ent]
   refine ar [] 0 [] (by simp) (by simp) (by simp) (by simp) (DX l) (by simp) fun _ _=>?_
   simp (disch:=omega) [-List.reduceReplicate,ID]
   exact ⟨il,3,⟨rfl,rfl⟩,_,rfl,_,by simp,rfl,enters_of mM (by kernel_rfl) rfl,xx (okQ H p) l hc⟩
 · intro i us b h
   obtain ⟨x,h1,h2,h3,h4⟩:=mZ _ _ _ _ _ _ h
   simp only [plV,V.tup.injEq] at h2
   subst h2
   have hil:i < 1000:=by have:=(List.getElem?_eq_some_iff.1 h1).1; rw [PO] at this; omega
   have hHx:=hH i x h1 h4
   have hodd:okQ H p x=false→x8 H p l=i:=fun hx=>by
    have:=I1 _ _ _ 0 _ h1 h4 hx
    simpa [x8] using this
   obtain ⟨⟨k,par⟩,n⟩:=x
   have hst:=xw p k par n
   simp only at hHx
   simp only [okQ] at h3 hodd
   clear h h1 h4
   unfold f6
   simp (disch:=omega) [-List.reduceReplicate,ui]
   refine ac (by simpa using hst) rfl fun _=>?_
   simp (disch:=omega) [-List.reduceReplicate]
   refine BrK.mk (fun h=>?_) (fun h=>?_)
   · simp (disch:=omega) [-List.reduceReplicate,h]
     rw [h] at h3 hodd
     simp only [Bool.true_and] at h3 hodd
     refine BrKd.mk (fun h2=>?_) (fun h2=>?_)
     · have hHx:=hHx h h2
       simp only [h2,decide_true,Bool.not_true,Bool.false_or] at h3 hodd
       simp (disch:=omega) [-List.reduceReplicate,h2]
       refine an (fu p n.name) (by simp) fun _=>?_
       generalize (aZ p.elements n.name).getD .zero=e at *
       simp (disch:=omega) [-List.reduceReplicate]
       refine ac (by simpa using hHx) rfl fun _=>?_
       simp (disch:=omega) [-List.reduceReplicate]
       refine BrK.mk (fun h4=>?_) (fun h4=>?_)
       · simp (disch:=omega) [-List.reduceReplicate,h4]
         exact k8 (by rw [h3,h4]) rfl
       · simp (disch:=omega) [-List.reduceReplicate,h4]
         exact nT (by rw [h3,h4]) (by rw [hodd h4]; rfl)
     · simp only [h2,decide_false,Bool.not_false,Bool.true_or] at h3 hodd
       simp (disch:=omega) [-List.reduceReplicate,h2]
       exact k8 h3 rfl
   · rw [h] at h3 hodd
     simp only [Bool.false_and,true_implies] at h3 hodd
     simp (disch:=omega) [-List.reduceReplicate,h]
     exact nT h3 (by rw [hodd]; rfl)
 · intro h
   unfold f6
   have h0:x8 H p l=-1:=ER _ _ _ ((xC plV (okQ H p) (plL 0 [] l)).1 h)
   rw [h0]
   simp only [uh]
   simp (disch:=omega) [-List.reduceReplicate]
   exact ⟨by simp (disch:=omega) [-List.reduceReplicate],rfl⟩
 · intro h
   exact ⟨by simp (disch:=omega) [-List.reduceReplicate,f6],rfl⟩
def pL (H:Allowed→List Attr→Bool) (p:Policy) (l:List Node):Bool:=ns l && decide (x8 H p l < 0)
theorem fw (H:Allowed→List Attr→Bool) (p:Policy) (l:List Node) (hf:aj cU l) (hc:am l < 1000) (hH:ns l=true→rZ H p l):Fn Tryz.prog oB [p.v,.seq 5 (l.map Node.v)] (.bool (pL H p l)):=by
 refine Fn.of_image mixed z7 zo rfl fun ho=>?_
 unfold px
 simp only [oks,ok,and_true] at ho
 clear ho
 simp (disch:=omega) [-List.reduceReplicate,pL]
 refine ac (xr l hf hc) rfl fun _=>?_
 simp (disch:=omega) [-List.reduceReplicate]
 refine BrK.mk (fun h=>?_) (fun h=>?_)
 · simp (disch:=omega) [-List.reduceReplicate,h]
   refine ac (by simpa using mW H p l hc (hH h)) rfl fun _=>?_
   simp (disch:=omega) [-List.reduceReplicate]
 · simp (disch:=omega) [-List.reduceReplicate,h]
def H0:Allowed→List Attr→Bool:=fun _ _=>true
def BW:Policy:=⟨[],[],[]⟩
def Se:Policy:=⟨[gz],[],[]⟩
def my:List Node:=[⟨2,[],[],[120],[]⟩]
theorem SS (H:Allowed→List Attr→Bool) (p:Policy):rZ H p []:=fun i x h=>by simp [plL] at h
theorem D2 (H:Allowed→List Attr→Bool) (p:Policy):rZ H p my:=by
 intro i x h1 h2 h3 h4
 cases i with
 | zero=>simp [plL,my] at h1; subst h1; simp at h4
 | succ i=>simp [plL,my,vG] at h1
theorem NF:aj cU my:=by simp [my,aj,b9,cU]
theorem Ar:Fn Tryz.prog yE [] (.bool true):=by
 refine Fn.of_image mixed zX zk rfl fun ho=>?_
 unfold pq
 simp only [oks,ok,and_true] at ho
 clear ho
 have n1:pL H0 BW []=true:=by decide
 have n2:pL H0 BW my=false:=by decide
 have n3:pL H0 Se my=true:=by decide
 have n4:x8 H0 BW my=0:=by decide
 have c1:=fw H0 BW [] (by simp [aj]) (by simp [am]) (fun _=>SS _ _)
 have c2:=fw H0 BW my NF (by simp [my,am,dJ]) (fun _=>D2 _ _)
 have c3:=fw H0 Se my NF (by simp [my,am,dJ]) (fun _=>D2 _ _)
 have c4:=mW H0 BW my (by simp [my,am,dJ]) (D2 _ _)
 rw [n1] at c1
 rw [n2] at c2
 rw [n3] at c3
 rw [n4] at c4
 simp (disch:=omega) [-List.reduceReplicate]
 refine ac (by simpa [BW] using c1) rfl fun _=>?_
 simp (disch:=omega) [-List.reduceReplicate]
 refine ac (by simpa [BW,my] using c2) rfl fun _=>?_
 simp (disch:=omega) [-List.reduceReplicate]
 refine ac (by simpa [Se,my,gz] using c3) rfl fun _=>?_
 simp (disch:=omega) [-List.reduceReplicate]
 refine ac (by simpa [BW,my] using c4) rfl fun _=>?_
 simp (disch:=omega) [-List.reduceReplicate]
end Go.Abs.F
end
section
set_option maxHeartbeats 16000000
set_option maxRecDepth 100000
namespace Go.Abs.F
open Go.Proofs
attribute [-simp] getElem?_pos Option.not_isSome List.map_map
end Go.Abs.F

end
