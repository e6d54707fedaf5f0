/-
  Plain: a walk through nodes, each ahead of its kids. No program in sight. No condition.
  What the program's functions for walks through nodes and nodes that may be answer. No condition.
  What the program's functions for nodes that are stable answer. No condition.
-/
import Derived.Test.YthficpngadcpgaaGreatDoorPF1
import Derived.Test.YthficpngadcpgaaGreatDoorPP2
set_option linter.unusedVariables false
set_option linter.unusedSimpArgs false
set_option linter.unusedSectionVars false
section
set_option maxHeartbeats 4000000
set_option maxRecDepth 100000
namespace Go.Abs.F
open Go.Proofs
mutual
def itK:Node→List (List Node × Nat)
 | ⟨_,_,_,_,ks⟩=>itL ks ks 0
def itL:List Node→List Node→Nat→List (List Node × Nat)
 | _,[],_=>[]
 | row,n::l,i=>(row,i)::(itK n++itL row l (i + 1))
end
theorem zL (n:Node):itK n=itL n.kids n.kids 0:=by cases n; simp [itK]
def itV (x:List Node × Nat):V:=.tup [.seq 5 (x.1.map Node.v),.int .i64 x.2]
def dp {α:Type} (v:α→V) (t:α→Bool):List α→List (V × Bool)
 | []=>[]
 | x::l=>if t x then (v x,true)::dp v t l else [(v x,false)]
theorem qR {α:Type} (v:α→V) (t:α→Bool):∀ (l:List α) (i:Nat) (u:V),(dp v t l)[i]?=some (u,false)→i + 1=(dp v t l).length
 | [],i,u,h=>by simp [dp] at h
 | x::l,i,u,h=>by
   unfold dp at h ⊢
   by_cases hx:t x=true
   · rw [if_pos hx] at h ⊢
     cases i with
     | zero=>simp at h
     | succ i=>simpa using qR v t l i u (by simpa using h)
   · rw [if_neg hx] at h ⊢
     cases i with
     | zero=>simp
     | succ i=>simp at h
theorem lW {α:Type} (v:α→V) (t:α→Bool):∀ (l:List α) (i:Nat) (u:V) (b:Bool),(dp v t l)[i]?=some (u,b)→∃ x,l[i]?=some x∧u=v x∧b=t x∧(l.take i).all t=true
 | [],i,u,b,h=>by simp [dp] at h
 | x::l,i,u,b,h=>by
   unfold dp at h
   by_cases hx:t x=true
   · rw [if_pos hx] at h
     cases i with
     | zero=>simp at h; exact ⟨x,by simp,h.1.symm,by rw [h.2,hx],by simp⟩
     | succ i=>
       obtain ⟨y,h1,h2,h3,h4⟩:=lW v t l i u b (by simpa using h)
       exact ⟨y,by simpa using h1,h2,h3,by simp [hx,h4]⟩
   · rw [if_neg hx] at h
     cases i with
     | zero=>simp at h; exact ⟨x,by simp,h.1.symm,by simp at hx; rw [h.2,hx],by simp⟩
     | succ i=>simp at h
theorem vi {α:Type} (v:α→V) (t:α→Bool):∀ (l:List α),(∀ p∈dp v t l,p.2=true)↔l.all t=true
 | []=>by simp [dp]
 | x::l=>by
   unfold dp
   by_cases hx:t x=true
   · rw [if_pos hx,List.forall_mem_cons,vi v t l,List.all_cons,hx]
     simp
   · rw [if_neg hx,List.all_cons]
     simp [hx]
def jh (x:List Node × Nat):Int:=match x.1[x.2]? with
 | some n=>iA n (et x.1 x.2)
 | none=>0
def cY:List (List Node × Nat)→Int
 | []=>0
 | x::l=>if jh x=0 then cY l else jh x
theorem iG:∀ (a b:List (List Node × Nat)),cY (a++b)=if cY a=0 then cY b else cY a
 | [],b=>by simp [cY]
 | x::a,b=>by
   by_cases h:jh x=0
   · simp [cY,iG a b,h]
   · simp [cY,iG a b,h]
theorem uX:∀ (l:List Node) (row:List Node) (i:Nat),row.drop i=l→cY (itL row l i)=fE (et row i) l:=by
 refine aH (fun row i _=>by simp [itL,cY,fE]) ?_
 intro n l h1 h2 row i hd
 have hn:row[i]?=some n:=by
  have:=congrArg (fun m=>m[0]?) hd
  simpa using this
 have hd2:row.drop (i + 1)=l:=by rw [←List.drop_drop,hd]; rfl
 have e:et row (i + 1)=decide (n.kind=2):=by simp [et,hn]
 simp only [itL,cY,fE,iG,zL,sT,jh,hn]
 rw [h1 n.kids 0 (by simp),h2 row (i + 1) hd2,e]
 have:et n.kids 0=false:=by simp [et]
 rw [this]
theorem uY:∀ l:List (List Node × Nat),(l.all fun x=>decide (jh x=0))=decide (cY l=0)
 | []=>by simp [cY]
 | x::l=>by
   simp only [List.all_cons,cY,uY l]
   by_cases h:jh x=0<;>simp [h]
theorem yy:∀ (l:List (List Node × Nat)) (i:Nat) (x:List Node × Nat),l[i]?=some x→(l.take i).all (fun x=>decide (jh x=0))=true→¬jh x=0→cY l=jh x
 | [],i,x,h,_,_=>by simp at h
 | y::l,0,x,h,_,hx=>by
   simp at h
   subst h
   simp [cY,hx]
 | y::l,i + 1,x,h,ha,hx=>by
   simp only [List.take_succ_cons,List.all_cons,Bool.and_eq_true,decide_eq_true_eq] at ha
   simp only [cY]
   rw [if_pos ha.1]
   exact yy l i x (by simpa using h) ha.2 hx
theorem ML {P:Node→Prop} {m:Nat}:∀ (l:List Node) (row:List Node) (i:Nat),row.drop i=l→al P row→ai row≤m→∀ x∈itL row l i,∃ n,x.1[x.2]?=some n∧P n∧x.1.length≤m:=by
 refine aH (fun row i _ _ _ x hx=>by simp [itL] at hx) ?_
 intro n l h1 h2 row i hd ha hc x hx
 have hn:row[i]?=some n:=by
  have:=congrArg (fun m=>m[0]?) hd
  simpa using this
 have hd2:row.drop (i + 1)=l:=by rw [←List.drop_drop,hd]; rfl
 have hm:=List.mem_of_getElem? hn
 have hp:=eG ha hm
 have hcm:=sZ hm
 simp only [itL,zL,List.mem_cons,List.mem_append] at hx
 rcases hx with rfl | hx | hx
 · exact ⟨n,hn,hp.1,by have:=iq row; simp only; omega⟩
 · exact h1 n.kids 0 rfl hp.2 (by omega) x hx
 · exact h2 row (i + 1) hd2 ha hc x hx
end Go.Abs.F
end
section
set_option maxHeartbeats 4000000
set_option maxRecDepth 100000
namespace Go.Abs.F
open Go.Proofs
attribute [-simp] getElem?_pos Option.not_isSome List.map_map
theorem CW (n:Node) (b:Bool) (hf:ky n):Fn Tryz.prog B1 [.sptr n.v 0,.bool b] (.int .i64 (iA n b)):=by
 refine Fn.of_image mixed CD Cp rfl fun ho=>?_
 unfold rS
 simp only [oks,ok,and_true] at ho
 clear ho
 have hla:0 < n.attrs.length↔¬n.attrs=[]:=by rw [List.length_pos_iff]
 have hlk:0 < n.kids.length↔¬n.kids=[]:=by rw [List.length_pos_iff]
 have hf2:=hf.2.1
 by_cases h1:n.kind=1
 · by_cases ht:n.text=[]
   · simp (disch:=omega) [-List.reduceReplicate,iA,h1,ht]
     refine ac (by simpa [ht,h1] using xA n hf ht) rfl fun _=>?_
     simp (disch:=omega) [-List.reduceReplicate]
   · simp (disch:=omega) [-List.reduceReplicate,iA,h1,ht,lV]
 · have hU:=u4 n.text (by omega)
   simp only [iA,if_neg h1]
   generalize o9 n.text=R at hU ⊢
   simp (disch:=omega) [-List.reduceReplicate,h1]
   cases R<;>repeat' (first
    | (refine BrKd.mk (fun h=>?_) (fun h=>?_)<;>simp (disch:=omega) [hla,hlk, *])
    | (refine BrK.mk (fun h=>?_) (fun h=>?_)<;>simp (disch:=omega) [hla,hlk, *])
    | (refine ac hU rfl (fun _=>?_)<;>simp (disch:=omega) [hla,hlk, *]))
theorem ED (t:List Node × Nat→Bool):∀ (l:List Node) (more:List (List Node × Nat)) (deep:Nat),ai l + deep < 1000→
 FnH Tryz.prog jM [2] [.seq 5 (l.map Node.v),.int .i64 deep,.ref 0 0] [some (.gh (dp itV t (itL l l 0++more)))] (.bool ((itL l l 0).all t)) [some (.gh (if (itL l l 0).all t then dp itV t more else []))]:=by
 have key:∀ l:List Node,(∀ n∈l,∀ (more:List (List Node × Nat)) (deep:Nat),ai n.kids + deep < 1000→
  FnH Tryz.prog jM [2] [.seq 5 (n.kids.map Node.v),.int .i64 deep,.ref 0 0] [some (.gh (dp itV t (itL n.kids n.kids 0++more)))] (.bool ((itL n.kids n.kids 0).all t)) [some (.gh (if (itL n.kids n.kids 0).all t then dp itV t more else []))])→
  ∀ (more:List (List Node × Nat)) (deep:Nat),ai l + deep < 1000→
  FnH Tryz.prog jM [2] [.seq 5 (l.map Node.v),.int .i64 deep,.ref 0 0] [some (.gh (dp itV t (itL l l 0++more)))] (.bool ((itL l l 0).all t)) [some (.gh (if (itL l l 0).all t then dp itV t more else []))]:=by
  intro l hrec more deep hdeep
  refine FnH.of_image mixed Eg Eb rfl fun ho hh=>?_
  unfold vu
  have hlen:l.length≤140737488355328:=by have:=ho.1.1; simpa using this
  clear ho hh
  have hd0:¬deep=1000:=by omega
  simp (disch:=omega) [-List.reduceReplicate,hd0]
  generalize hR:(itL l l 0).all t=R
  refine am (fun (k:Nat)=>⟨[(0,.seq 5 (l.map Node.v)),(1,.int .i64 deep),(2,.ref 0 0),(14,.int .i64 l.length),(15,.int .i64 k)],[some (.gh (dp itV t (itL l (l.drop k) k++more)))]⟩)
   (fun k=>k≤l.length∧(itL l (l.drop k) k).all t=R) (fun k=>l.length - k) [] _ 0 rfl (by simp) (by simp [hR]) ?_
  rintro k ⟨hk,hi⟩ N hN
  rcases place l k hk with ⟨he,hd⟩ | ⟨hlt,x,hx,hd⟩<;>rw [hd] at hi
  · simp only [itL,List.all_nil] at hi
    subst hi
    have e:l.drop k++[]=[]:=by simp [hd]
    simp (disch:=omega) [-List.reduceReplicate,he,itL]
  · have hxm:=List.mem_of_getElem? hx
    have hcn:=sZ hxm
    have hrx:=hrec x hxm (itL l (l.drop (k + 1)) (k + 1)++more) (deep + 1) (by omega)
    simp only [itL,List.all_cons,List.all_append,zL] at hi
    replace hi:=hid hi
    rw [hd]
    simp only [itL,zL,List.cons_append,List.append_assoc]
    by_cases ht:t (l,k)=true
    · rw [dp,if_pos ht]
      generalize hG:dp itV t (itL x.kids x.kids 0++(itL l (l.drop (k + 1)) (k + 1)++more))=G at hrx ⊢
      simp (disch:=omega) [-List.reduceReplicate,itV,hx]
      rw [show ((deep + 1:Nat):Int)=(deep:Int) + 1 by omega] at hrx
      refine ap [2] 1 [0] (by simp) (by simp) (by simp) (by simp) hrx (by simp) fun _ _=>?_
      by_cases ha:(itL x.kids x.kids 0).all t=true
      · rw [ha]
        simp (disch:=omega) [-List.reduceReplicate,hx]
        have hi:=hi.out
        rw [ht,ha] at hi
        refine hN.out _<|Nx.mk (k + 1) (by simp) ⟨by omega,by simpa using hi⟩ (by omega)
      · have ha':(itL x.kids x.kids 0).all t=false:=by simpa using ha
        have hi:=hi.out
        rw [ht,ha'] at hi
        simp only [Bool.true_and,Bool.false_and] at hi
        subst hi
        rw [ha']
        simp (disch:=omega) [-List.reduceReplicate,hx]
    · rw [dp,if_neg ht]
      have hi:=hi.out
      have ht':t (l,k)=false:=by simpa using ht
      rw [ht'] at hi
      simp only [Bool.false_and] at hi
      subst hi
      simp (disch:=omega) [-List.reduceReplicate,itV]
 have all:∀ l:List Node,∀ n∈l,∀ (more:List (List Node × Nat)) (deep:Nat),ai n.kids + deep < 1000→
  FnH Tryz.prog jM [2] [.seq 5 (n.kids.map Node.v),.int .i64 deep,.ref 0 0] [some (.gh (dp itV t (itL n.kids n.kids 0++more)))] (.bool ((itL n.kids n.kids 0).all t)) [some (.gh (if (itL n.kids n.kids 0).all t then dp itV t more else []))]:=by
  refine aH (fun x hx=>by cases hx) ?_
  intro n l h1 h2 x hx
  rcases List.mem_cons.1 hx with rfl | hx
  · exact key _ h1
  · exact h2 x hx
 exact fun l=>key l (all l)
theorem AY (t:List Node × Nat→Bool) (l:List Node) (hc:ai l < 1000):
 FnH Tryz.prog jN [0] [.ref 0 0,.ptr 1 0] [some (.gh (dp itV t (itL l l 0))),some (.box [.seq 5 (l.map Node.v)])] (.tup []) [some (.gh [])]:=by
 refine FnH.of_image mixed pH Ag rfl fun ho hh=>?_
 unfold qd
 clear ho hh
 have hw:=ED t l [] 0 (by omega)
 rw [List.append_nil] at hw
 have e:(if (itL l l 0).all t=true then dp itV t [] else [])=[]:=by split<;>rfl
 rw [e] at hw
 generalize dp itV t (itL l l 0)=G at hw ⊢
 simp (disch:=omega) [-List.reduceReplicate]
 refine ap [2] 1 [0] (by simp) (by simp) (by simp) (by simp) hw (by simp) fun _ _=>?_
 simp (disch:=omega) [-List.reduceReplicate]
theorem EE (l:List Node):FnH Tryz.prog DX [] [.seq 5 (l.map Node.v)] [] (.fn (.func jN) [] [.ptr 0 0]) [some (.box [.seq 5 (l.map Node.v)])]:=by
 refine FnH.of_image mixed Eh Ec rfl fun ho hh=>?_
 unfold vv
 clear ho hh
 simp (disch:=omega) [-List.reduceReplicate]
theorem j2 {st:Nat→St} {stx:St} {ks:List Nat} {i:Nat} {b:Bool} {τ:St} (hb:b=true) (h:τ.nrm ks=st (i + 1)):Dh st stx ks i b .norm τ:=⟨hb,[],τ,rfl,h⟩
theorem mP {st:Nat→St} {stx:St} {ks:List Nat} {i:Nat} {b:Bool} {τ:St} (hb:b=false) (h:τ.nrm ks=stx):Dh st stx ks i b .ret τ:=⟨hb,[],τ,rfl,h⟩
def Jy (x:List Node × Nat):Bool:=decide (jh x=0)
theorem Hp (l:List Node) (hf:al ky l) (hc:ai l < 1000):Fn Tryz.prog GF [.seq 5 (l.map Node.v)] (.int .i64 (may l)):=by
 refine FnE.fn ?_
 refine FnE.of_rng mixed Hf G5 rfl (full:=dp itV Jy (itL l l 0)) (st:=fun _=>⟨[(2,.ptr 0 0)],[some (.box [.int .i64 0])]⟩) (stx:=⟨[(2,.ptr 0 0)],[some (.box [.int .i64 (may l)])]⟩) ?_ ?_ ?_ ?_ ?_ ?_
 · intro i us b h
   obtain ⟨x,h1,h2,h3,h4⟩:=lW _ _ _ _ _ _ h
   simp only [itV,V.tup.injEq] at h2
   subst h2
   rfl
 · exact fun i v h=>qR _ _ _ _ _ h
 · intro ho
   clear ho
   unfold jn
   simp only [r0]
   simp (disch:=omega) [-List.reduceReplicate,ent]
   refine ap [] 0 [] (by simp) (by simp) (by simp) (by simp) (EE l) (by simp) fun _ _=>?_
   simp (disch:=omega) [-List.reduceReplicate,E2]
   exact ⟨jN,1,⟨rfl,rfl⟩,_,rfl,_,by simp,rfl,enters_of pH (by kernel_rfl) rfl,AY Jy l hc⟩
 · intro i us b h
   obtain ⟨x,h1,h2,h3,h4⟩:=lW _ _ _ _ _ _ h
   simp only [itV,V.tup.injEq] at h2
   subst h2
   unfold jn
   obtain ⟨n,hn,hfn,hrl⟩:=ML (m:=1000) l l 0 rfl hf (by omega) x (List.mem_of_getElem? h1)
   obtain ⟨row,j⟩:=x
   simp only at hn hrl
   have hj:j < row.length:=(List.getElem?_eq_some_iff.1 hn).1
   have herr:jh (row,j)=iA n (et row j):=by simp [jh,hn]
   have hmay:¬iA n (et row j)=0→may l=iA n (et row j):=by
    intro hx
    rw [←herr] at hx ⊢
    have:=yy _ _ _ h1 h4 hx
    rw [uX l l 0 rfl] at this
    simpa [may,et] using this
   have hb:b=decide (iA n (et row j)=0):=by rw [h3,Jy,herr]
   have hck:=CW n (et row j) hfn
   clear h h3 h4 herr h1
   by_cases hj0:0 < j
   · obtain ⟨m,hm⟩:=aV (l:=row) (k:=j - 1) (by omega)
     have e:((j:Int) - 1).toNat=j - 1:=by omega
     have hpv:et row j=decide (m.kind=2):=by simp [et,hj0,hm]
     generalize et row j=pv at *
     simp (disch:=omega) [-List.reduceReplicate,r4,hj0,e,hm,hn,←hpv]
     refine ac (by simpa using hck) rfl fun _=>?_
     simp (disch:=omega) [-List.reduceReplicate]
     refine BrKd.mk (fun h=>?_) (fun h=>?_)
     · simp (disch:=omega) [-List.reduceReplicate,h]
       exact j2 (by rw [hb,h]; rfl) rfl
     · simp (disch:=omega) [-List.reduceReplicate,h]
       exact mP (by rw [hb]; simp [h]) (by rw [hmay h]; rfl)
   · have hpv:et row j=false:=by simp [et,hj0]
     rw [hpv] at hck hb hmay
     simp (disch:=omega) [-List.reduceReplicate,r4,hj0,hn]
     refine ac (by simpa using hck) rfl fun _=>?_
     simp (disch:=omega) [-List.reduceReplicate]
     refine BrKd.mk (fun h=>?_) (fun h=>?_)
     · simp (disch:=omega) [-List.reduceReplicate,h]
       exact j2 (by rw [hb,h]; rfl) rfl
     · simp (disch:=omega) [-List.reduceReplicate,h]
       exact mP (by rw [hb]; simp [h]) (by rw [hmay h]; rfl)
 · intro h
   unfold jn
   have h0:may l=0:=by
    have:=(vi itV Jy (itL l l 0)).1 h
    rw [show (itL l l 0).all Jy=(itL l l 0).all fun x=>decide (jh x=0) from rfl,uY,uX l l 0 rfl] at this
    simpa [may,et] using this
   rw [h0]
   simp only [r0]
   simp (disch:=omega) [-List.reduceReplicate]
   exact ⟨by simp (disch:=omega) [-List.reduceReplicate],rfl⟩
 · intro h
   exact ⟨by simp (disch:=omega) [-List.reduceReplicate,jn],rfl⟩
section
variable {Φ:Ctr} {d:Option Nat} {K:St→Prop} {σ:St}
def B9 (σ:St) (d:Option Nat) (K:St→Prop) (e sz:Nat) (vs us:List V):Prop:=aY sz us=true∧us.length≤16777216∧K (St.put ⟨(σ.kill (ah vs)).r,(σ.kill (ah vs)).h++[some (Ob.arr e sz us)]⟩ d (.ref (σ.kill (ah vs)).h.length us.length))
def ud (σ:St) (d:Option Nat) (K:St→Prop) (e sz:Nat) (vs:List V):Prop:=oM (purs σ.h vs) (B9 σ d K e sz vs)
theorem uc {e sz:Nat} {vs us:List V}:B9 σ d K e sz vs us=(aY sz us=true∧us.length≤16777216∧K (St.put ⟨(σ.kill (ah vs)).r,(σ.kill (ah vs)).h++[some (Ob.arr e sz us)]⟩ d (.ref (σ.kill (ah vs)).h.length us.length))):=propext Iff.rfl
theorem qC {e sz:Nat} {vs:List V}:ud σ d K e sz vs=oM (purs σ.h vs) (B9 σ d K e sz vs):=propext Iff.rfl
theorem KA {e sz:Nat} {xs:List AO}:af Φ d (.ltr e sz xs) K σ=oM (σ.evs xs) (ud σ d K e sz):=by
 simp only [af]
 cases σ.evs xs with
 | none=>rfl
 | some vs=>
   simp only [oM,ud,B9]
   cases purs σ.h vs<;>rfl
theorem PY {e sz:Nat} {xs:List AO}:ag Φ d (.ltr e sz xs) K σ=af Φ d (.ltr e sz xs) K σ:=propext Iff.rfl
def Oo (σ:St) (x hi:AO) (sz:Nat):Option (St × V):=match σ.ev x,σ.ev hi with
 | some (.ref id n),some (.int _ b)=>match σ.arr? id with
   | some (e,sz',l)=>if sz'=sz∧n=l.length∧0≤b∧b≤n then some ({ σ with h:=σ.h.set id none++[some (Ob.arr e sz (l.take b.toNat))] },.ref σ.h.length b.toNat) else none
   | none=>none
 | _,_=>none
def trcK (d:Option Nat) (K:St→Prop) (p:St × V):Prop:=K (p.1.put d p.2)
theorem IA {τ:St} {v:V}:trcK d K (τ,v)=K (τ.put d v):=propext Iff.rfl
theorem a_trc {x hi:AO} {sz:Nat}:af Φ d (.trc x hi sz) K σ=oM (Oo σ x hi sz) (trcK d K):=by
 simp only [af,Oo]
 cases σ.ev x with
 | none=>rfl
 | some u=>
   cases σ.ev hi with
   | none=>cases u<;>rfl
   | some v=>
     cases u<;>try rfl
     cases v<;>try rfl
     rename_i id n k b
     simp only
     cases σ.arr? id with
     | none=>rfl
     | some t=>
       obtain ⟨e,sz',l⟩:=t
       simp only
       by_cases hc:sz'=sz∧n=l.length∧0≤b∧b≤n
       · rw [if_pos hc]
         obtain ⟨c1,c2,c3,c4⟩:=hc
         exact propext ⟨fun h=>h.2.2.2.2,fun h=>⟨c1,c2,c3,c4,h⟩⟩
       · rw [if_neg hc]
         exact propext ⟨fun h=>hc ⟨h.1,h.2.1,h.2.2.1,h.2.2.2.1⟩,fun h=>h.elim⟩
end
attribute [simp] uc qC KA PY IA a_trc Oo aY
def zd (l:List Str):V:=.seq 1 (l.map .str)
def clM:List (V × V):=[(.str [112],zd (aZ [112])),(.str [108,105],zd (aZ [108,105])),(.str [100,116],zd (aZ [100,116])),(.str [100,100],zd (aZ [100,100])),(.str [111,112,116,105,111,110],zd (aZ [111,112,116,105,111,110])),(.str [116,100],zd (aZ [116,100])),(.str [116,114],zd (aZ [116,114]))]
theorem sD:FnH Tryz.prog sd [] [] [] (.ref 0 0) [some (.mp ktS1 clM)]:=by
 refine FnH.of_image mixed sx sj rfl fun ho hh=>?_
 unfold kI
 clear ho hh
 simp (disch:=omega) [-List.reduceReplicate,kN,sV,bf,kOf,aC,aX,dW]
 rfl
theorem M5 (o:Str):pp (.str o) clM=if aZ o=[] then none else some (zd (aZ o)):=by
 simp only [clM,pp,sV,decide_eq_true_eq]
 by_cases h1:o=[112]
 · subst h1; rfl
 by_cases h2:o=[108,105]
 · subst h2; rfl
 by_cases h3:o=[100,116]
 · subst h3; rfl
 by_cases h4:o=[100,100]
 · subst h4; rfl
 by_cases h5:o=[111,112,116,105,111,110]
 · subst h5; rfl
 by_cases h6:o=[116,100]
 · subst h6; rfl
 by_cases h7:o=[116,114]
 · subst h7; rfl
 · simp [aZ,h1,h2,h3,h4,h5,h6,h7]
theorem u9 (o b:Str):Fn Tryz.prog tW [.str o,.str b] (.bool (iN o b)):=by
 refine Fn.of_imageE mixed uN ux rfl fun ho=>?_
 unfold md
 simp only [oks,ok,and_true] at ho
 clear ho
 simp (disch:=omega) [-List.reduceReplicate]
 refine ap [] 0 [] (by simp) (by simp) (by simp) (by simp) sD (by simp) fun _ _=>?_
 have hg:=M5 o
 by_cases he:aZ o=[]
 · rw [if_pos he] at hg
   simp (disch:=omega) [-List.reduceReplicate,hg,bf,kOf,aC,aX,dW]
   have hc:=f_slices_Contains_string [] b
   refine ac (by simpa using hc) rfl fun _=>?_
   simp (disch:=omega) [-List.reduceReplicate,iN,he]
 · rw [if_neg he] at hg
   simp (disch:=omega) [-List.reduceReplicate,hg,bf,kOf,aC,aX,dW,zd]
   refine ac (f_slices_Contains_string (aZ o) b) rfl fun _=>?_
   simp (disch:=omega) [-List.reduceReplicate,iN]
theorem AX (par:Str) (n:Node) (hp:par.length≤1000000) (ht:n.text.length≤100000000):Fn Tryz.prog zC [.str par,n.v] (.bool (en par n)):=by
 refine Fn.of_image mixed Az Af rfl fun ho=>?_
 unfold p9
 simp only [oks,ok,and_true] at ho
 clear ho
 simp (disch:=omega) [-List.reduceReplicate,en]
 refine ac (EF par) rfl fun _=>?_
 simp (disch:=omega) [-List.reduceReplicate]
 refine BrK.mk (fun h1=>?_) (fun h1=>?_)
 · simp (disch:=omega) [-List.reduceReplicate,h1]
 · simp (disch:=omega) [-List.reduceReplicate,h1]
   refine ac (yC par) rfl fun _=>?_
   simp (disch:=omega) [-List.reduceReplicate]
   refine BrK.mk (fun h2=>?_) (fun h2=>?_)
   · simp (disch:=omega) [-List.reduceReplicate,h2]
     refine BrKd.mk (fun hk=>?_) (fun hk=>?_)
     · simp (disch:=omega) [-List.reduceReplicate,hk]
       have e:n.text++[60,47]++par++[62]=n.text++60::47::(par++[62]):=by simp
       have hE:=AI (n.text++[60,47]++par++[62]) par (by simp; omega) hp
       rw [e] at hE
       refine az hE rfl ?_
       simp (disch:=omega) [-List.reduceReplicate,hk]
     · simp (disch:=omega) [-List.reduceReplicate,hk]
   · simp (disch:=omega) [-List.reduceReplicate,h2]
     refine BrKd.mk (fun h3=>?_) (fun h3=>?_)
     · simp (disch:=omega) [-List.reduceReplicate,h3]
       refine ac (u9 par n.name) rfl fun _=>?_
       simp (disch:=omega) [-List.reduceReplicate,h3]
     · simp (disch:=omega) [-List.reduceReplicate,h3]
def rh (par:Str) (n:Node):Bool:=en par n && (!decide (n.kind=3) || !gV ju n.text)
theorem xy (par:Str) (n:Node) (hp:par.length≤1000000) (ht:n.text.length≤100000000):Fn Tryz.prog nc [.str par,.sptr n.v 0] (.bool (rh par n)):=by
 refine Fn.of_image mixed xf wI rfl fun ho=>?_
 unfold nH
 simp only [oks,ok,and_true] at ho
 clear ho
 simp (disch:=omega) [-List.reduceReplicate,rh]
 refine ac (by simpa using AX par n hp ht) rfl fun _=>?_
 simp (disch:=omega) [-List.reduceReplicate]
 refine BrK.mk (fun h1=>?_) (fun h1=>?_)
 · simp (disch:=omega) [-List.reduceReplicate,h1]
   refine BrKd.mk (fun h2=>?_) (fun h2=>?_)
   · simp (disch:=omega) [-List.reduceReplicate,h2]
     have hc:=oy n.text ju (by omega)
     rw [←uC ju (by simp [ju])] at hc
     refine ac hc rfl fun _=>?_
     simp (disch:=omega) [-List.reduceReplicate,h2]
   · simp (disch:=omega) [-List.reduceReplicate,h2]
 · simp (disch:=omega) [-List.reduceReplicate,h1]
def kg (x:Str × List Node):V:=.strct [.str x.1,.seq 5 (x.2.map Node.v)]
def oZ (of:Str) (row:List Node):Bool:=!(raw of && decide (1 < row.length)) && row.all (rh of)
mutual
def IJ:Node→Bool
 | ⟨_,nm,_,_,ks⟩=>oZ nm ks && qo ks
def qo:List Node→Bool
 | []=>true
 | n::l=>IJ n && qo l
end
theorem y8 (n:Node):IJ n=(oZ n.name n.kids && qo n.kids):=by cases n; simp [IJ]
def mh (x:Str × List Node):Bool:=oZ x.1 x.2 && qo x.2
def mn (l:List Node):Bool:=decide (may l=0) && mh ([],l)
def jO:List (Str × List Node)→Nat
 | []=>0
 | x::l=>1 + ai x.2 + jO l
theorem lC:∀ (a b:List (Str × List Node)),jO (a++b)=jO a + jO b
 | [],b=>by simp [jO]
 | x::a,b=>by simp only [List.cons_append,jO,lC a b]; omega
theorem uf:∀ S:List (Str × List Node),S.length≤jO S
 | []=>by simp
 | x::S=>by have:=uf S; simp only [List.length_cons,jO]; omega
theorem u7 (l:List Node) (hf:al ky l) (hc:ai l < 1000):Fn Tryz.prog tV [.seq 5 (l.map Node.v)] (.bool (mn l)):=by
 refine Fn.of_imageE mixed uM uv rfl fun ho=>?_
 unfold mc
 simp only [oks,ok,and_true] at ho
 clear ho
 simp (disch:=omega) [-List.reduceReplicate,mn]
 refine ac (Hp l hf hc) rfl fun _=>?_
 simp (disch:=omega) [-List.reduceReplicate]
 refine BrKd.mk (fun h1=>?_) (fun h1=>?_)
 · simp (disch:=omega) [-List.reduceReplicate,h1]
   generalize hR:mh ([],l)=R
   refine am (fun (S:List (Str × List Node))=>⟨[(3,.ref 0 S.length)],[some (.arr cA 2 (S.map kg))]⟩)
    (fun S=>S.all mh=R∧jO S≤1001∧∀ x∈S,x.1.length≤1000000∧al ky x.2) (fun S=>jO S) [] _ [([],l)] rfl (by simp [kg]) ?_ ?_
   · refine ⟨by simp [hR],by simp [jO]; omega,?_⟩
     intro x hx
     simp only [List.mem_singleton] at hx
     subst hx
     exact ⟨by simp,hf⟩
   rintro S ⟨hi,hm,hall⟩ N hN
   rcases List.eq_nil_or_concat S with rfl | ⟨S',x,rfl⟩
   · simp at hi
     subst hi
     simp (disch:=omega) [-List.reduceReplicate]
   · obtain ⟨of,row⟩:=x
     simp only [List.concat_eq_append] at *
     have hsl:S'.length≤1001:=by have:=uf (S'++[(of,row)]); simp at this; omega
     have hget:((S'++[(of,row)]).map kg)[S'.length]?=some (kg (of,row)):=by simp [getElem?_pos]
     have htk:((S'++[(of,row)]).map kg).take S'.length=S'.map kg:=by simp [List.map_append,List.take_append]
     have hlm:((S'++[(of,row)]).map kg).length=S'.length + 1:=by simp
     generalize hG:(S'++[(of,row)]).map kg=G at hget htk hlm
     have hl2:(S'++[(of,row)]).length=S'.length + 1:=by simp
     simp only [hl2,hG]
     have hx0:=hall (of,row) (by simp)
     have hS':∀ x∈S',x.1.length≤1000000∧al ky x.2:=fun x hx=>hall x (by simp [hx])
     have hms:jO (S'++[(of,row)])=jO S' + (1 + ai row):=by simp [lC,jO]
     simp only [List.all_append,List.all_cons,List.all_nil,Bool.and_true] at hi
     have hrl:=iq row
     replace hi:=hid hi
     have inner:∀ hnr:(raw of && decide (1 < row.length))=false,W (Cn Tryz.prog) (.loop [3,4,38,39] (Q [.reg [bt 40 .lss 39 38] [3,4,38,39,40],
      C 40 (.skip) (.exit 2),
      .block 3 (Q [.reg [m 41 39,m 5 41] [3,4,5,38,39],
       .reg [fa 42 4 1,l1 43 42,m 44 5,ia 45 43 44 5,m 6 45] [3,4,6,38,39],
       Q [.reg [fa 46 4 0,l1 47 46,m 48 6,ca 49 nc [47,48],nt' 50 49] [3,4,6,38,39,50],
        C 50 (Q [.reg [mb 2 false] [2],
          .ret]) (.skip)],
       .reg [m 51 6,o1 52 (.nlc (.t 51)),fa 53 52 4,l1 54 53,lq 55 54,bi 56 .gtr 55 0] [3,4,6,38,39,56],
       C 56 (.regD [m 57 3,m 58 6,o1 59 (.nlc (.t 58)),fa 60 59 1,l1 61 60,m 62 6,o1 63 (.nlc (.t 62)),fa 64 63 4,l1 65 64,o1 66 (.bld [.str [],.nil 5] [(0,1,(.t 61)),(1,1,(.t 65))]),o1 67 (.ltr cA 2 [.t 66]),o1 68 (.app (.t 57) (.t 67) cA 2 40),m 3 68] [3,4,38,39]) (.skip)]),
      .reg [bi 69 .add 39 1,m 39 69] [3,4,38,39]])) (Ex.inBlock 2 (Ex.inBlock 1 (Ex.then N (Ex.inBlock 0 (Ex.then (W (Cn Tryz.prog) (Q [.reg [mb 2 true] [2],.ret]) (Res [RV.t 2] fun x=>x=V.bool R)) (Res [RV.t 2] fun x=>x=V.bool R))))))
      ⟨[(3,.ref 2 S'.length),(4,.ptr 1 0),(38,.int .i64 row.length),(39,.int .i64 0)],[none,some (.box [.str of,.seq 5 (row.map Node.v)]),some (.arr cA 2 (S'.map kg))]⟩:=by
      intro hnr
      refine am (fun (q:Nat × List (Str × List Node))=>⟨[(3,.ref 0 q.2.length),(4,.ptr 1 0),(38,.int .i64 row.length),(39,.int .i64 q.1)],[some (.arr cA 2 (q.2.map kg)),some (.box [.str of,.seq 5 (row.map Node.v)])]⟩)
       (fun q=>q.1≤row.length∧(q.2.all mh && ((row.drop q.1).all (rh of) && qo (row.drop q.1)))=R∧jO q.2 + ai (row.drop q.1)≤jO S' + ai row∧∀ x∈q.2,x.1.length≤1000000∧al ky x.2)
       (fun q=>row.length - q.1) [] _ (0,S') rfl (by simp) ⟨by simp,by have hi:=hi.out; simpa [mh,oZ,hnr] using hi,by simp,hS'⟩ ?_
      rintro ⟨k,S2⟩ ⟨hk,hi2,hm2,hall2⟩ N2 hN2
      simp only at hk hi2 hm2 hall2
      rcases place row k hk with ⟨he,hd⟩ | ⟨hlt,x,hx,hd⟩<;>rw [hd] at hi2 hm2
      · simp [qo] at hi2
        simp only [ai] at hm2
        simp (disch:=omega) [-List.reduceReplicate,he]
        exact hN.out _<|Nx.mk S2 (by simp) ⟨hi2,by omega,hall2⟩ (by simp only [hms]; omega)
      · simp only [List.all_cons,qo,ai,dr] at hi2 hm2
        have hfx:=eG hx0.2 (List.mem_of_getElem? hx)
        have hs2l:=uf S2
        replace hi2:=hid hi2
        simp (disch:=omega) [-List.reduceReplicate,hx]
        refine ac (by simpa using xy of x hx0.1 (by have:=hfx.1.2.1; omega)) rfl fun _=>?_
        simp (disch:=omega) [-List.reduceReplicate]
        refine BrK.mk (fun h=>?_) (fun h=>?_)
        · simp (disch:=omega) [-List.reduceReplicate,h]
          refine BrKd.mk (fun h3=>?_) (fun h3=>?_)
          · simp (disch:=omega) [-List.reduceReplicate,h3]
            have hi2:=hi2.out
            have hss:IJ x=mh (x.name,x.kids):=by simp [y8,mh]
            have hms2:jO (S2++[(x.name,x.kids)])=jO S2 + (1 + ai x.kids):=by simp [lC,jO]
            refine hN2.out _<|Nx.mk (k + 1,S2++[(x.name,x.kids)]) (by simp [kg]) ⟨by simp only; omega,?_,by simp only [hms2]; omega,?_⟩ (by simp only; omega)
            · rw [h,hss] at hi2
              rw [←hi2]
              simp only [List.all_append,List.all_cons,List.all_nil,Bool.and_true,Bool.true_and]
              cases S2.all mh<;>cases mh (x.name,x.kids)<;>simp
            · intro y hy
              rcases List.mem_append.1 hy with hy | hy
              · exact hall2 y hy
              · simp only [List.mem_singleton] at hy
                subst hy
                exact ⟨hfx.1.1,hfx.2⟩
          · have hk0:x.kids=[]:=List.eq_nil_of_length_eq_zero (by omega)
            simp (disch:=omega) [-List.reduceReplicate,h3]
            have hi2:=hi2.out
            have hss:IJ x=true:=by simp [y8,oZ,hk0,qo]
            rw [hss,h] at hi2
            exact hN2.out _<|Nx.mk (k + 1,S2) (by simp) ⟨by simp only; omega,by simpa using hi2,by simp only; omega,hall2⟩ (by simp only; omega)
        · simp (disch:=omega) [-List.reduceReplicate,h]
          have hi2:=hi2.out
          simp [h] at hi2
          simp [←hi2]
     simp (disch:=omega) [-List.reduceReplicate,kg,hget,htk,hlm]
     refine ac (yC of) rfl fun _=>?_
     simp (disch:=omega) [-List.reduceReplicate]
     refine BrK.mk (fun h=>?_) (fun h=>?_)
     · simp (disch:=omega) [-List.reduceReplicate,h]
       refine BrKd.mk (fun h2=>?_) (fun h2=>?_)
       · simp (disch:=omega) [-List.reduceReplicate,h2]
         have hi:=hi.out
         simp [mh,oZ,h,h2] at hi
         simp [←hi]
       · simp (disch:=omega) [-List.reduceReplicate,h2]
         exact inner (by simp [h]; omega)
     · simp (disch:=omega) [-List.reduceReplicate,h]
       exact inner (by simp [h])
 · simp (disch:=omega) [-List.reduceReplicate,h1]
end Go.Abs.F
end
