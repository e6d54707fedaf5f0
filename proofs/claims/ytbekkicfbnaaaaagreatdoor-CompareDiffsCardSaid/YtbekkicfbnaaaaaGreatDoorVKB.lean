/- The search, step by step. No condition. -/
import Derived.Test.YtbekkicfbnaaaaaGreatDoorVKA
import Derived.Test.YtbekkicfbnaaaaaGreatDoorVCodeK
import Derived.Test.YtbekkicfbnaaaaaGreatDoorVR17
set_option linter.all false
section
set_option maxHeartbeats 4000000
set_option maxRecDepth 100000
namespace Go.Abs.F
open Go.Proofs
attribute [-simp] getElem?_pos Option.not_isSome List.map_map
theorem wboth_K{Φ : Ctr}{σ : St}{ks : List Nat}{a b : OT}{Q : Ex -> St -> Prop}(S : St)(h : ∀Q : Ex -> St -> Prop,Q .norm S -> QU Φ a b (aiq Q ks) σ)(k : Q .norm S) : QU Φ a b (aiq Q ks) σ := h Q k
def chK2(Φ : Ctr)(d : Option Nat)(f : FuncId)(σ : St)(K : St -> Prop)(vs : List V) : Prop := xY Φ d f vs K σ
theorem chK2_app{Φ : Ctr}{d : Option Nat}{f : FuncId}{σ : St}{K : St -> Prop}{vs : List V} : chK2 Φ d f σ K vs = xY Φ d f vs K σ := propext Iff.rfl
theorem aD_callHK{Φ : Ctr}{d : Option Nat}{f : FuncId}{σ : St}{K : St -> Prop}{xs : List AO} : an Φ d (.callH f xs) K σ = oM (σ.evs xs) (chK2 Φ d f σ K) := by
  simp only[an,oM];cases σ.evs xs <;> rfl
attribute [simp] chK2_app aD_callHK
theorem wcallHD_mkK{Φ : Ctr}{σ : St}{K : St -> Prop}{d : Option Nat}(ps : List Nat)(q : Nat)(m : List Nat){f : FuncId}{vs us : List V}{H H' : List (Option Ob)}{r : V}(hc : σ.curs (c9 vs ps) = true)(hl : ir σ.h (c9 vs ps) vs = (q,m))(hu : fq m vs = us)(hH : kN σ.h m m = H)
    (h : Φ.e f ps us H r H') (hk : kin q H H' = true) (k : ak6 σ d K q m r H') : xY Φ d f vs K σ := by
  refine⟨ps,hc,r,H',?_,?_,?_⟩
  ·rw[hl,hH];exact hk
  ·rw[hl,hu,hH];exact h
  ·rw[hl];exact k
def Stp.v(s : Stp) : V := .strct [.int .i64 s.num,.int .i64 s.st,.int .i64 s.cost,.int .i64 s.src,.int .i64 s.tree]
theorem f_isNaNK(x : Int) : Fn Tryz.prog n_cmp_isNaNIintK [.int .i64 x] (.bool false) := by
  refine yoB i_cmp_isNaNIintK λho => ?_
  simp only[oks,ok,and_true]at ho;simp(disch := omega) [-List.reduceReplicate]
theorem f_cmpK(a b : Int) : Fn Tryz.prog Cq [.int .i64 a,.int .i64 b] (.int .i64 (cmpI a b)) := by
  refine yoA CN ?_;simp(disch := omega) [-List.reduceReplicate];refine aa (f_isNaNK a) rfl λ_ => ?_
  simp(disch := omega) [-List.reduceReplicate];refine aa (f_isNaNK b) rfl λ_ => ?_
  simp(disch := omega) [-List.reduceReplicate];by_cases h : a<b
  ·simp(disch := omega) [-List.reduceReplicate,cmpI,h]
  ·by_cases h2 : b<a
   ·simp(disch := omega) [-List.reduceReplicate,cmpI,h,h2]
   ·simp(disch := omega) [-List.reduceReplicate,cmpI,h,h2]
theorem f_orK(l : List Int)(hl : l.length <= 100) : Fn Tryz.prog n_cmp_OrIint [.seq 1 (l.map (V.int .i64))] (.int .i64 (orI l)) := by
  refine yoA i_cmp_OrIint ?_;simp(disch := omega) [-List.reduceReplicate];generalize hw : orI l = w;refine ah (λk : Nat => ⟨[(3,.int .i64 0),(6,.seq 1 (l.map (V.int .i64))),(7,.int .i64 l.length),(8,.int .i64 k)],[]⟩) (λk => k <= l.length /\ orI (l.drop k) = w) (λk => l.length-k) [] _ 0 rfl (by simp) (by simp[hw]) ?_
  rintro k ⟨hk,hi⟩ N hN;rcases place l k hk with⟨he,hd⟩|⟨hlt,x,hx,hd⟩ <;> rw[hd]at hi
  ·simp only[orI]at hi
   subst hi;simp(disch := omega) [-List.reduceReplicate,he]
  ·simp only[orI]at hi
   by_cases h0 : x = 0
   ·simp only[h0,if_true]at hi
    simp(disch := omega) [-List.reduceReplicate,hx,h0];exact hN.out _ <| Nx.mk (k+1) (by simp) ⟨by omega,hi⟩ (by omega)
   ·rw[if_neg h0]at hi
    subst hi;simp(disch := omega) [-List.reduceReplicate,hx,h0]
theorem f_queue_Len(l : List Stp) : Fn Tryz.prog n_hedge_queue_Len [.seq 5 (l.map Stp.v)] (.int .i64 l.length) := by
  refine yoB i_hedge_queue_Len λho => ?_
  simp only[oks,ok,and_true]at ho;simp(disch := omega) [-List.reduceReplicate]
theorem f_queue_Less(l : List Stp)(i j : Nat)(hi : i<l.length)(hj : j<l.length) : Fn Tryz.prog n_hedge_queue_Less [.seq 5 (l.map Stp.v),.int .i64 i,.int .i64 j] (.bool (lessS (getS l i) (getS l j))) := by
  obtain⟨x,hx⟩ := av hi;obtain⟨y,hy⟩ := av hj;rw[getS_some hx,getS_some hy];have h1 := f_cmpK x.cost y.cost;have h2 := f_cmpK x.num y.num;have h3 := f_cmpK x.st y.st;have h4 := f_cmpK x.src y.src;have h5 := f_cmpK x.tree y.tree;have hor := f_orK (keyS x y) (by simp[keyS])
  unfold lessS;unfold keyS at hor⊢;simp only[List.map_cons,List.map_nil]at hor;refine Fn.of_image mixed Tryz.func267 i_hedge_queue_Less rfl λho => ?_
  unfold c_hedge_queue_Less;simp only[oks,ok,and_true]at ho;simp(disch := omega) [-List.reduceReplicate,hx,hy];refine wboth_K ⟨[(7,.ptr 0 0),(8,.ptr 1 0)],[some (.box [.int .i64 x.num,.int .i64 x.st,.int .i64 x.cost,.int .i64 x.src,.int .i64 x.tree]),some (.box [.int .i64 y.num,.int .i64 y.st,.int .i64 y.cost,.int .i64 y.src,.int .i64 y.tree])]⟩ (λF hF => ?_) ?_
  ·try simp at hF
   repeat' (first
     |with_reducible exact hF
     |refine QU.mk ?_ ?_
     |(simp(disch := omega) [-List.reduceReplicate,hx,hy,Stp.v]))
  simp(disch := omega) [-List.reduceReplicate];refine aw h1 rfl ?_;simp(disch := omega) [-List.reduceReplicate];refine aw h2 rfl ?_;simp(disch := omega) [-List.reduceReplicate];refine aw h3 rfl ?_;simp(disch := omega) [-List.reduceReplicate];refine aw h4 rfl ?_;simp(disch := omega) [-List.reduceReplicate];refine aw h5 rfl ?_;simp(disch := omega) [-List.reduceReplicate];refine aw hor rfl ?_;simp(disch := omega) [-List.reduceReplicate]
theorem f_queue_Swap(l : List Stp)(i j : Nat)(hi : i<l.length)(hj : j<l.length) : FnH Tryz.prog n_hedge_queue_Swap [0] [.ref 0 l.length,.int .i64 i,.int .i64 j] [some (.arr ty_hedge_step 5 (l.map Stp.v))] (.tup []) [some (.arr ty_hedge_step 5 ((swpS l i j).map Stp.v))] := by
  obtain⟨x,hx⟩ := av hi;obtain⟨y,hy⟩ := av hj;have e : swpS l i j = (l.set i y).set j x := by simp only[swpS,getS_some hx,getS_some hy]
  rw[e]
  have hset : ((l.map Stp.v).set i y.v)[j]? = some y.v := by
    rw[List.getElem?_set];split
    ·simp[hi]
    ·simp[hy]
  have hyv : y.v = .strct [.int .i64 y.num,.int .i64 y.st,.int .i64 y.cost,.int .i64 y.src,.int .i64 y.tree] := rfl;have hxv : x.v = .strct [.int .i64 x.num,.int .i64 x.st,.int .i64 x.cost,.int .i64 x.src,.int .i64 x.tree] := rfl;rw[hyv]at hset;refine yoH i_hedge_queue_Swap ?_;simp(disch := omega) [-List.reduceReplicate,hx,hy,hset,hyv,hxv]
end Go.Abs.F
end
section
set_option maxHeartbeats 4000000
set_option maxRecDepth 100000
namespace Go.Abs.F
open Go.Proofs
attribute [-simp] getElem?_pos Option.not_isSome List.map_map
structure PureV (v : V) : Prop where
  aF : aF v = []
  ren : ∀m,ren m v = v
  bck : ∀m,bck m v = v
structure Inert (o : Ob) : Prop where
  obI : obI (some (some o)) = []
  ren : ∀m,gZ m (some o) = some o
  bck : ∀m,rn m (some o) = some o
def FHK(mv : V)(q : List Stp)(n3 n4 : Nat)(o2 o3 o4 o5 : Ob) : List (Option Ob) :=
  [some (.box [mv,.ref 1 q.length,.ref 2 0,.ref 3 n3,.ref 4 n4,.ref 5 0]),some (.arr ty_hedge_step 5 (q.map Stp.v)),some o2,some o3,some o4,some o5]
section
variable{mv : V}{n3 n4 : Nat}{o2 o3 o4 o5 : Ob}(hm : PureV mv)(h2 : Inert o2)(h3 : Inert o3)(h4 : Inert o4)(h5 : Inert o5)
include hm h2 h3 h4 h5
theorem f_heap_up(f : Nat)(l : List Stp)(j : Nat)(hj : j<f)(hl : j<l.length)(hbig : l.length <= 4000000000000) :
    FnH Tryz.prog n_container_heap_up [0] [.iface ty_phedge_queue (.ptr 0 1),.int .i64 j] (FHK mv l n3 n4 o2 o3 o4 o5) (.tup []) (FHK mv (upSK f l j) n3 n4 o2 o3 o4 o5) := by
  generalize hT : upSK f l j = T;have e1 := hm.aF;have e2 := hm.ren;have e3 := hm.bck;have a2 := h2.obI;have a3 := h3.obI;have a4 := h4.obI;have a5 := h5.obI;have b2 := h2.ren;have b3 := h3.ren;have b4 := h4.ren;have b5 := h5.ren;have c2 := h2.bck;have c3 := h3.bck;have c4 := h4.bck;have c5 := h5.bck;refine yoH i_container_heap_up ?_;simp(disch := omega) [-List.reduceReplicate,FHK,e1,e2,a2,a3,a4,a5,b2,b3,b4,b5]
  refine ah (λ(x : Nat×List Stp×Nat) => ⟨[(0,.iface ty_phedge_queue (.ptr 0 1)),(1,.int .i64 x.2.2)],FHK mv x.2.1 n3 n4 o2 o3 o4 o5⟩)
    (λx => x.2.2<x.1 /\ x.2.2<x.2.1.length /\ x.2.1.length = l.length /\ upSK x.1 x.2.1 x.2.2 = T) (λx => x.1) [] _ (f,l,j) rfl (by simp[FHK,e1,e2,a2,a3,a4,a5,b2,b3,b4,b5]) ⟨hj,hl,rfl,hT⟩ ?_
  rintro⟨f,l1,j⟩ ⟨hj,hl,hll,hT⟩ N hN;simp only at hj hl hll hT;cases f with
  |zero => omega
  |succ f =>
  simp only[upSK]at hT;by_cases h0 : (j-1)/2 = j
  ·have hj0 : j = 0 := by omega
   subst hj0;simp only[Nat.zero_sub,Nat.zero_div,if_true]at hT;subst hT;have hq : dx .quo .i64 (-1) 2 = some (.int .i64 0) := by simp only[dx];rfl
   simp(disch := omega) [-List.reduceReplicate,FHK,hq,e1,e2,a2,a3,a4,a5,b2,b3,b4,b5]
  ·have hj1 : 0<j := by omega
   have hq : ((j : Int)-1)/2 = (((j-1)/2 : Nat) : Int) := by omega
   have hne : ¬ (((j-1)/2 : Nat) : Int) = (j : Int) := by omega
   have hp : (j-1)/2<l1.length := by omega
   rw[if_neg h0]at hT;have hless := f_queue_Less l1 j ((j-1)/2) hl hp;have hswap := f_queue_Swap l1 ((j-1)/2) j hp hl;have hslen := swpS_len l1 ((j-1)/2) j;generalize(j-1)/2 = i at *;simp(disch := omega) [-List.reduceReplicate,FHK,hq,hne,e1,e2,a2,a3,a4,a5,b2,b3,b4,b5];refine .inl (aa hless rfl λ_ => ?_)
   cases hb : lessS (getS l1 j) (getS l1 i)with
   |false =>
     rw[hb]at hT;simp only[Bool.false_eq_true,if_false]at hT;subst hT;simp(disch := omega) [-List.reduceReplicate,e1,e2,a2,a3,a4,a5,b2,b3,b4,b5]
   |true =>
     rw[hb]at hT;simp only[if_true]at hT;simp(disch := omega) [-List.reduceReplicate,e1,e2,a2,a3,a4,a5,b2,b3,b4,b5];refine .inr (am [0] 1 [1] (by simp) (by simp) (by simp) (by simp) hswap (by simp) λ_ _ => ?_)
     simp(disch := omega) [-List.reduceReplicate,e1,e2,e3,a2,a3,a4,a5,b2,b3,b4,b5,c2,c3,c4,c5];exact hN.out _ <| Nx.mk (f,swpS l1 i j,i) (by simp[FHK,hslen,e1,e2,a2,a3,a4,a5,b2,b3,b4,b5]) ⟨by simp only;omega,by simp only;omega,by simp only;omega,hT⟩ (by simp only;omega)
theorem f_heap_down(f : Nat)(l : List Stp)(i n : Nat)(hf : n<f+i)(hi : i<l.length)(hn : n <= l.length)(hbig : l.length <= 4000000000000) :
    FnH Tryz.prog n_container_heap_down [0] [.iface ty_phedge_queue (.ptr 0 1),.int .i64 i,.int .i64 n] (FHK mv l n3 n4 o2 o3 o4 o5) (.bool (decide (i<downE f l i n))) (FHK mv (downS f l i n) n3 n4 o2 o3 o4 o5) := by
  generalize hT : downS f l i n = T;generalize hE : downE f l i n = E;have e1 := hm.aF;have e2 := hm.ren;have e3 := hm.bck;have a2 := h2.obI;have a3 := h3.obI;have a4 := h4.obI;have a5 := h5.obI;have b2 := h2.ren;have b3 := h3.ren;have b4 := h4.ren;have b5 := h5.ren;have c2 := h2.bck;have c3 := h3.bck;have c4 := h4.bck;have c5 := h5.bck;refine yoH i_container_heap_down ?_;simp(disch := omega) [-List.reduceReplicate,FHK,e1,e2,a2,a3,a4,a5,b2,b3,b4,b5]
  refine ah (λ(x : Nat×List Stp×Nat) => ⟨[(0,.iface ty_phedge_queue (.ptr 0 1)),(1,.int .i64 i),(2,.int .i64 n),(7,.int .i64 x.2.2)],FHK mv x.2.1 n3 n4 o2 o3 o4 o5⟩)
    (λx => n<x.1+x.2.2 /\ x.2.2<x.2.1.length /\ x.2.1.length = l.length /\ downS x.1 x.2.1 x.2.2 n = T /\ downE x.1 x.2.1 x.2.2 n = E) (λx => x.1) [] _ (f,l,i) rfl (by simp[FHK,e1,e2,a2,a3,a4,a5,b2,b3,b4,b5]) ⟨hf,hi,rfl,hT,hE⟩ ?_
  clear hT hE hf hi;rintro⟨f,l1,k⟩ ⟨hf,hk,hll,hT,hE⟩ N hN;simp only at hf hk hll hT hE;cases f with
  |zero =>
    simp only[downS,downE]at hT hE;subst hT;subst hE;have g1 : (n : Int) <= 2*k+1 := by omega
    simp(disch := omega) [-List.reduceReplicate,FHK,g1,e1,e2,a2,a3,a4,a5,b2,b3,b4,b5]
  |succ f =>
  simp only[downS,downE]at hT hE;by_cases h0 : n <= 2*k+1
  ·rw[if_pos h0]at hT hE
   subst hT;subst hE;have g1 : (n : Int) <= 2*k+1 := by omega
   simp(disch := omega) [-List.reduceReplicate,FHK,g1,e1,e2,a2,a3,a4,a5,b2,b3,b4,b5]
  ·rw[if_neg h0]at hT hE
   have g1 : ¬ (n : Int) <= 2*k+1 := by omega
   have g2 : ¬ ((2 : Int)*k+1<0) := by omega
   have hj := kidS_lt (l := l1) (i := k) (n := n) (by omega)
   by_cases h2n : 2*k+2<n
   ·have g3 : (2 : Int)*k+1+1<n := by omega
    have hless2 := f_queue_Less l1 (2*k+2) (2*k+1) (by omega) (by omega)
    have ee1 : ((2*k+2 : Nat) : Int) = 2*k+1+1 := by omega
    have ee2 : ((2*k+1 : Nat) : Int) = 2*k+1 := by omega
    rw[ee1,ee2]at hless2;simp(disch := omega) [-List.reduceReplicate,FHK,g1,g2,g3,e1,e2,a2,a3,a4,a5,b2,b3,b4,b5];refine .inl (aa hless2 rfl λ_ => ?_)
    cases hb2 : lessS (getS l1 (2*k+2)) (getS l1 (2*k+1))with
    |true =>
      have hkid : kidS l1 k n = 2*k+2 := by simp[kidS,h2n,hb2]
      rw[hkid]at hT hE;simp(disch := omega) [-List.reduceReplicate,e1,e2,a2,a3,a4,a5,b2,b3,b4,b5];have hless := f_queue_Less l1 (2*k+2) k (by omega) hk
      have hswap := f_queue_Swap l1 k (2*k+2) hk (by omega)
      have hslen := swpS_len l1 k (2*k+2);rw[show((2*k+2 : Nat) : Int) = 2*k+1+1 by omega]at hless hswap
      refine .inl (aa hless rfl λ_ => ?_)
      cases hb : lessS (getS l1 (2*k+2)) (getS l1 k)with
      |false =>
        simp only[hb,Bool.false_eq_true,if_false]at hT hE;subst hT;subst hE;simp(disch := omega) [-List.reduceReplicate,e1,e2,a2,a3,a4,a5,b2,b3,b4,b5]
      |true =>
        simp only[hb,if_true]at hT hE;simp(disch := omega) [-List.reduceReplicate,e1,e2,a2,a3,a4,a5,b2,b3,b4,b5];refine .inr (am [0] 1 [1] (by simp) (by simp) (by simp) (by simp) hswap (by simp) λ_ _ => ?_)
        simp(disch := omega) [-List.reduceReplicate,e1,e2,e3,a2,a3,a4,a5,b2,b3,b4,b5,c2,c3,c4,c5];exact hN.out _ <| Nx.mk (f,swpS l1 k (2*k+2),2*k+2) (by simp[FHK,hslen,e1,e2,a2,a3,a4,a5,b2,b3,b4,b5] <;> omega) ⟨by simp only;omega,by simp only;omega,by simp only;omega,hT,hE⟩ (by simp only;omega)
    |false =>
      have hkid : kidS l1 k n = 2*k+1 := by simp[kidS,hb2]
      rw[hkid]at hT hE;simp(disch := omega) [-List.reduceReplicate,e1,e2,a2,a3,a4,a5,b2,b3,b4,b5];have hless := f_queue_Less l1 (2*k+1) k (by omega) hk
      have hswap := f_queue_Swap l1 k (2*k+1) hk (by omega)
      have hslen := swpS_len l1 k (2*k+1);rw[show((2*k+1 : Nat) : Int) = 2*k+1 by omega]at hless hswap
      refine .inl (aa hless rfl λ_ => ?_)
      cases hb : lessS (getS l1 (2*k+1)) (getS l1 k)with
      |false =>
        simp only[hb,Bool.false_eq_true,if_false]at hT hE;subst hT;subst hE;simp(disch := omega) [-List.reduceReplicate,e1,e2,a2,a3,a4,a5,b2,b3,b4,b5]
      |true =>
        simp only[hb,if_true]at hT hE;simp(disch := omega) [-List.reduceReplicate,e1,e2,a2,a3,a4,a5,b2,b3,b4,b5];refine .inr (am [0] 1 [1] (by simp) (by simp) (by simp) (by simp) hswap (by simp) λ_ _ => ?_)
        simp(disch := omega) [-List.reduceReplicate,e1,e2,e3,a2,a3,a4,a5,b2,b3,b4,b5,c2,c3,c4,c5];exact hN.out _ <| Nx.mk (f,swpS l1 k (2*k+1),2*k+1) (by simp[FHK,hslen,e1,e2,a2,a3,a4,a5,b2,b3,b4,b5] <;> omega) ⟨by simp only;omega,by simp only;omega,by simp only;omega,hT,hE⟩ (by simp only;omega)
   ·have g3 : ¬ (2 : Int)*k+1+1<n := by omega
    have hkid : kidS l1 k n = 2*k+1 := by simp[kidS,h2n]
    rw[hkid]at hT hE;simp(disch := omega) [-List.reduceReplicate,FHK,g1,g2,g3,e1,e2,a2,a3,a4,a5,b2,b3,b4,b5];have hless := f_queue_Less l1 (2*k+1) k (by omega) hk
    have hswap := f_queue_Swap l1 k (2*k+1) hk (by omega)
    have hslen := swpS_len l1 k (2*k+1);rw[show((2*k+1 : Nat) : Int) = 2*k+1 by omega]at hless hswap
    refine .inl (aa hless rfl λ_ => ?_)
    cases hb : lessS (getS l1 (2*k+1)) (getS l1 k)with
    |false =>
      simp only[hb,Bool.false_eq_true,if_false]at hT hE;subst hT;subst hE;simp(disch := omega) [-List.reduceReplicate,e1,e2,a2,a3,a4,a5,b2,b3,b4,b5]
    |true =>
      simp only[hb,if_true]at hT hE;simp(disch := omega) [-List.reduceReplicate,e1,e2,a2,a3,a4,a5,b2,b3,b4,b5];refine .inr (am [0] 1 [1] (by simp) (by simp) (by simp) (by simp) hswap (by simp) λ_ _ => ?_)
      simp(disch := omega) [-List.reduceReplicate,e1,e2,e3,a2,a3,a4,a5,b2,b3,b4,b5,c2,c3,c4,c5];exact hN.out _ <| Nx.mk (f,swpS l1 k (2*k+1),2*k+1) (by simp[FHK,hslen,e1,e2,a2,a3,a4,a5,b2,b3,b4,b5] <;> omega) ⟨by simp only;omega,by simp only;omega,by simp only;omega,hT,hE⟩ (by simp only;omega)
end
end Go.Abs.F
end
section
set_option maxHeartbeats 4000000
set_option maxRecDepth 100000
namespace Go.Abs.F
open Go.Proofs
attribute [-simp] getElem?_pos Option.not_isSome List.map_map
section
variable{mv : V}{n3 n4 : Nat}{o2 o3 o4 o5 : Ob}(hm : PureV mv)(h2 : Inert o2)(h3 : Inert o3)(h4 : Inert o4)(h5 : Inert o5)
include hm h2 h3 h4 h5
theorem f_queue_Push(l : List Stp)(x : Stp)(hbig : l.length <= 1000000000000) :
    FnH Tryz.prog n_phedge_queue_Push [0] [.ptr 0 1,.iface ty_hedge_step x.v] (FHK mv l n3 n4 o2 o3 o4 o5) (.tup []) (FHK mv (l ++ [x]) n3 n4 o2 o3 o4 o5) := by
  have e1 := hm.aF;have e2 := hm.ren;have e3 := hm.bck;have a2 := h2.obI;have a3 := h3.obI;have a4 := h4.obI;have a5 := h5.obI;have b2 := h2.ren;have b3 := h3.ren;have b4 := h4.ren;have b5 := h5.ren;have c2 := h2.bck;have c3 := h3.bck;have c4 := h4.bck;have c5 := h5.bck;have hxv : x.v = .strct [.int .i64 x.num,.int .i64 x.st,.int .i64 x.cost,.int .i64 x.src,.int .i64 x.tree] := rfl;rw[hxv];refine yoH i_phedge_queue_Push ?_;simp(disch := omega) [-List.reduceReplicate,FHK,hxv,e1,e2,a2,a3,a4,a5,b2,b3,b4,b5]
theorem f_queue_Pop(l : List Stp)(hl : 0<l.length)(hbig : l.length <= 1000000000000) :
    FnH Tryz.prog n_phedge_queue_Pop [0] [.ptr 0 1] (FHK mv l n3 n4 o2 o3 o4 o5) (.iface ty_hedge_step (getS l (l.length-1)).v) (FHK mv (l.take (l.length-1)) n3 n4 o2 o3 o4 o5) := by
  have e1 := hm.aF;have e2 := hm.ren;have e3 := hm.bck;have a2 := h2.obI;have a3 := h3.obI;have a4 := h4.obI;have a5 := h5.obI;have b2 := h2.ren;have b3 := h3.ren;have b4 := h4.ren;have b5 := h5.ren;have c2 := h2.bck;have c3 := h3.bck;have c4 := h4.bck;have c5 := h5.bck;obtain⟨x,hx⟩ := av (l := l) (k := l.length-1) (by omega)
  rw[getS_some hx];have hxv : x.v = .strct [.int .i64 x.num,.int .i64 x.st,.int .i64 x.cost,.int .i64 x.src,.int .i64 x.tree] := rfl;rw[hxv];have g1 : ((l.length : Int)-1).toNat = l.length-1 := by omega
  refine yoH i_phedge_queue_Pop ?_;simp(disch := omega) [-List.reduceReplicate,FHK,hx,hxv,g1,List.map_take,e1,e2,a2,a3,a4,a5,b2,b3,b4,b5];have g2 : 1 <= l.length := hl;have g3 : (l.length : Int)-1 <= l.length := by omega
  simp(disch := omega) [-List.reduceReplicate,ak,FHK,hx,hxv,g1,g2,g3,List.map_take,e1,e2,a2,a3,a4,a5,b2,b3,b4,b5]
theorem f_heap_Push(l : List Stp)(x : Stp)(hbig : l.length <= 900000000000) :
    FnH Tryz.prog n_container_heap_Push [0] [.iface ty_phedge_queue (.ptr 0 1),.iface ty_hedge_step x.v] (FHK mv l n3 n4 o2 o3 o4 o5) (.tup []) (FHK mv (pushS l x) n3 n4 o2 o3 o4 o5) := by
  have e1 := hm.aF;have e2 := hm.ren;have e3 := hm.bck;have a2 := h2.obI;have a3 := h3.obI;have a4 := h4.obI;have a5 := h5.obI;have b2 := h2.ren;have b3 := h3.ren;have b4 := h4.ren;have b5 := h5.ren;have c2 := h2.bck;have c3 := h3.bck;have c4 := h4.bck;have c5 := h5.bck;have hpush := f_queue_Push (n3 := n3) (n4 := n4) hm h2 h3 h4 h5 l x (by omega)
  have hup := f_heap_up (n3 := n3) (n4 := n4) hm h2 h3 h4 h5 (l.length+1) (l ++ [x]) l.length (by omega) (by simp) (by simp;omega)
  have hlen := f_queue_Len (l ++ [x]);have hps : upSK (l.length+1) (l ++ [x]) l.length = pushS l x := rfl;rw[hps]at hup;have hLl : (l ++ [x]).length = l.length+1 := by simp
  rw[hLl]at hlen;generalize l ++ [x] = L at *;have hxv : x.v = .strct [.int .i64 x.num,.int .i64 x.st,.int .i64 x.cost,.int .i64 x.src,.int .i64 x.tree] := rfl;rw[hxv]at hpush⊢;generalize pushS l x = T at *;refine yoH i_container_heap_Push ?_;simp(disch := omega) [-List.reduceReplicate,FHK,e1,e2,a2,a3,a4,a5,b2,b3,b4,b5];refine am [0] 1 [0,1,2,3,4,5] (by simp) (by simp[e1,e2,a2,a3,a4,a5,b2,b3,b4,b5]) (by simp) (by simp[FHK,e1,e2,a2,a3,a4,a5,b2,b3,b4,b5]) hpush (by simp[FHK]) λ_ _ => ?_
  simp(disch := omega) [-List.reduceReplicate,FHK,hLl,List.range',List.replicate,hxv,e1,e2,e3,a2,a3,a4,a5,b2,b3,b4,b5,c2,c3,c4,c5];refine .inl (aa (by simpa using hlen) rfl λ_ => ?_)
  simp(disch := omega) [-List.reduceReplicate,FHK,List.range',List.replicate,hxv,e1,e2,e3,a2,a3,a4,a5,b2,b3,b4,b5,c2,c3,c4,c5];refine am [0] 1 [0,6,7,8,9,10] (by simp) (by simp[e1,e2,a2,a3,a4,a5,b2,b3,b4,b5]) (by simp) (by simp[FHK,hLl,e1,e2,a2,a3,a4,a5,b2,b3,b4,b5]) hup (by simp[FHK]) λ_ _ => ?_
  simp(disch := omega) [-List.reduceReplicate,FHK,List.range',List.replicate,hxv,e1,e2,e3,a2,a3,a4,a5,b2,b3,b4,b5,c2,c3,c4,c5]
theorem f_heap_Pop(l : List Stp)(hl : 0<l.length)(hbig : l.length <= 900000000000) :
    FnH Tryz.prog n_container_heap_Pop [0] [.iface ty_phedge_queue (.ptr 0 1)] (FHK mv l n3 n4 o2 o3 o4 o5) (.iface ty_hedge_step (getS (popS l) (l.length-1)).v) (FHK mv ((popS l).take (l.length-1)) n3 n4 o2 o3 o4 o5) := by
  have e1 := hm.aF;have e2 := hm.ren;have e3 := hm.bck;have a2 := h2.obI;have a3 := h3.obI;have a4 := h4.obI;have a5 := h5.obI;have b2 := h2.ren;have b3 := h3.ren;have b4 := h4.ren;have b5 := h5.ren;have c2 := h2.bck;have c3 := h3.bck;have c4 := h4.bck;have c5 := h5.bck;have hlen := f_queue_Len l;have hsw := f_queue_Swap l 0 (l.length-1) hl (by omega)
  have hsl := swpS_len l 0 (l.length-1);have hdn := f_heap_down (n3 := n3) (n4 := n4) hm h2 h3 h4 h5 l.length (swpS l 0 (l.length-1)) 0 (l.length-1) (by omega) (by omega) (by omega) (by omega)
  have hps : downS l.length (swpS l 0 (l.length-1)) 0 (l.length-1) = popS l := rfl;rw[hps]at hdn;have hpl := popS_len l;have hpop := f_queue_Pop (n3 := n3) (n4 := n4) hm h2 h3 h4 h5 (popS l) (by omega) (by omega)
  rw[hpl]at hpop;have hc : (l.length : Int)-1 = ((l.length-1 : Nat) : Int) := by omega
  generalize hn : l.length-1 = n at *;generalize downE l.length (swpS l 0 n) 0 n = E at *;generalize getS (popS l) n = x at *;have hxv : x.v = .strct [.int .i64 x.num,.int .i64 x.st,.int .i64 x.cost,.int .i64 x.src,.int .i64 x.tree] := rfl;rw[hxv]at hpop⊢;generalize popS l = T at *;refine yoH i_container_heap_Pop ?_;simp(disch := omega) [-List.reduceReplicate,FHK,e1,e2,a2,a3,a4,a5,b2,b3,b4,b5];refine .inl (aa hlen rfl λ_ => ?_)
  simp(disch := omega) [-List.reduceReplicate,FHK,hc,List.range',List.replicate,hxv,e1,e2,e3,a2,a3,a4,a5,b2,b3,b4,b5,c2,c3,c4,c5];refine .inr (am [0] 1 [1] (by simp) (by simp) (by simp) (by simp) hsw (by simp) λ_ _ => ?_)
  simp(disch := omega) [-List.reduceReplicate,FHK,hsl,List.range',List.replicate,hxv,e1,e2,e3,a2,a3,a4,a5,b2,b3,b4,b5,c2,c3,c4,c5];refine am [0] 1 [0,1,2,3,4,5] (by simp) (by simp[e1,e2,a2,a3,a4,a5,b2,b3,b4,b5]) (by simp) (by simp[FHK,hsl,e1,e2,a2,a3,a4,a5,b2,b3,b4,b5]) hdn (by simp[FHK]) λ_ _ => ?_
  simp(disch := omega) [-List.reduceReplicate,FHK,List.range',List.replicate,hxv,e1,e2,e3,a2,a3,a4,a5,b2,b3,b4,b5,c2,c3,c4,c5];refine am [0] 1 [0,6,7,8,9,10] (by simp) (by simp[e1,e2,a2,a3,a4,a5,b2,b3,b4,b5]) (by simp) (by simp[FHK,e1,e2,a2,a3,a4,a5,b2,b3,b4,b5]) hpop (by simp[FHK]) λ_ _ => ?_
  simp(disch := omega) [-List.reduceReplicate,FHK,List.range',List.replicate,hxv,e1,e2,e3,a2,a3,a4,a5,b2,b3,b4,b5,c2,c3,c4,c5]
end
end Go.Abs.F
end
section
set_option maxHeartbeats 4000000
set_option maxRecDepth 100000
namespace Go.Abs.F
open Go.Proofs
attribute [-simp] getElem?_pos Option.not_isSome List.map_map
def plV(p : Nat×Nat) : V := .strct [.int .i64 p.1,.int .i64 p.2]
def mkV(m : Stp×Bool) : V := .strct [.int .i64 m.1.num,.int .i64 m.1.st,.int .i64 m.1.cost,.int .i64 m.1.src,.int .i64 m.1.tree,.bool m.2]
def Src.v(c : Src) : V := .strct [.int .i64 c.num,.int .i64 c.st,.int .i64 c.cost]
def trV1(t : Nat) : V := .int .i64 t
def ktPK : KT := ⟨true,[.i .i64,.i .i64]⟩
def ktIK : KT := ⟨false,[.i .i64]⟩
def entM(l : List ((Nat×Nat)×(Stp×Bool))) : List (V×V) := l.map λe => (plV e.1,mkV e.2)
def entF(l : List (Nat×Src)) : List (V×V) := l.map λe => (trV1 e.1,Src.v e.2)
theorem eqK_pl(a b : Nat×Nat) : eqK (plV a) (plV b) = decide (a = b) := by
  obtain⟨a1,a2⟩ := a;obtain⟨b1,b2⟩ := b;simp only[eqK,plV,cl,pm,eqC,Bool.and_true];rw[Bool.eq_iff_iff];simp only[Bool.and_eq_true,decide_eq_true_eq,Prod.mk.injEq];omega
theorem eqK_tr(a b : Nat) : eqK (trV1 a) (trV1 b) = decide (a = b) := by
  simp only[eqK,trV1,cl,pm,eqC,Bool.and_true];rw[Bool.eq_iff_iff];simp only[decide_eq_true_eq];omega
theorem mget_M(p : Nat×Nat)(l : List ((Nat×Nat)×(Stp×Bool))) : lU (plV p) (entM l) = (aget p l).map mkV := mget_map eqK_pl p l
theorem mput_M(p : Nat×Nat)(u : Stp×Bool)(l : List ((Nat×Nat)×(Stp×Bool))) : nq (plV p) (mkV u) (entM l) = entM (aput p u l) := mput_map eqK_pl p u l
theorem mget_F(p : Nat)(l : List (Nat×Src)) : lU (trV1 p) (entF l) = (aget p l).map Src.v := mget_map eqK_tr p l
theorem mput_F(p : Nat)(u : Src)(l : List (Nat×Src)) : nq (trV1 p) (Src.v u) (entF l) = entF (aput p u l) := mput_map eqK_tr p u l
theorem fitsK_pl(a b : Int) : bH ⟨true,[.i .i64,.i .i64]⟩ (.strct [.int .i64 a,.int .i64 b]) = true := by simp[bH,gD,cl,b5,kOf,aU]
theorem Inert.mp{kt : KT}{l : List (V×V)} : Inert (.mp kt l) := ⟨by simp only[Go.Abs.obI],λm => by simp only[gZ],λm => by simp only[rn]⟩
theorem Inert.tok{c : Value} : Inert (.tok c) := ⟨by simp only[Go.Abs.obI],λm => by simp only[gZ],λm => by simp only[rn]⟩
theorem Inert.arr{e sz : Nat}{l : List V} : Inert (.arr e sz l) := ⟨by simp only[Go.Abs.obI],λm => by simp only[gZ],λm => by simp only[rn]⟩
theorem Inert.mat{e e2 sz : Nat}{l : List Rw} : Inert (.mat e e2 sz l) := ⟨by simp only[Go.Abs.obI],λm => by simp only[gZ],λm => by simp only[rn]⟩
def FFK(mv : V)(S : FSK)(n3 n4 : Nat)(o3 o4 : Ob) : List (Option Ob) := FHK mv S.q n3 n4 (.mp ktPK (entM S.marks)) o3 o4 (.mp ktIK (entF S.found))
section
variable{mv : V}{n3 n4 : Nat}{o3 o4 : Ob}(hm : PureV mv)(h3 : Inert o3)(h4 : Inert o4)
include hm h3 h4
theorem f_finder_put(S : FSK)(s : Stp)(hbig : S.q.length <= 900000000000) :
    FnH Tryz.prog n_phedge_finder_put [0] [.ptr 0 0,s.v] (FFK mv S n3 n4 o3 o4) (.tup []) (FFK mv (putP S s) n3 n4 o3 o4) := by
  have e1 := hm.aF;have e2 := hm.ren;have e3 := hm.bck;have a3 := h3.obI;have a4 := h4.obI;have b3 := h3.ren;have b4 := h4.ren;have c3 := h3.bck;have c4 := h4.bck;have hpush := f_heap_Push (n3 := n3) (n4 := n4) (o2 := .mp ktPK (entM (aput s.pl (s,false) S.marks))) (o5 := .mp ktIK (entF S.found)) hm .mp h3 h4 .mp S.q s hbig;have hget := mget_M s.pl S.marks;have hput := mput_M s.pl (s,false) S.marks;have hsv : s.v = .strct [.int .i64 s.num,.int .i64 s.st,.int .i64 s.cost,.int .i64 s.src,.int .i64 s.tree] := rfl;rw[hsv]at hpush⊢;simp only[plV,mkV,Stp.pl]at hget hput;have hfit := fitsK_pl s.num s.st;unfold putP;generalize hT : pushS S.q s = T at *;simp only[Stp.pl]at *;cases ha : aget (s.num,s.st) S.marks with
  |none =>
    rw[ha]at hget;simp only[Option.map_none]at hget;refine FnH.of_image mixed Tryz.func132 i_phedge_finder_put rfl λho hh => ?_
    unfold c_phedge_finder_put;clear ho hh;simp(disch := omega) [-List.reduceReplicate,FFK,FHK,ktPK,hget,hfit,e1,e2,a3,a4,b3,b4];refine wcallHD_mkK [0] 1 [0,1,2,3,4,5] (by simp) (by simp[e1,e2,a3,a4,b3,b4]) (by simp) (by simp[FHK,ktPK,hput,e1,e2,a3,a4,b3,b4]) hpush (by simp[FHK]) ?_
    simp(disch := omega) [-List.reduceReplicate,FHK,ktPK,List.range',List.replicate,e1,e2,e3,a3,a4,b3,b4,c3,c4]
  |some x =>
    obtain⟨k,d⟩ := x;rw[ha]at hget;simp only[Option.map_some,mkV]at hget;by_cases hc : d = true \/ k.cost <= s.cost
    ·simp only[hc,if_true]
     refine FnH.of_image mixed Tryz.func132 i_phedge_finder_put rfl λho hh => ?_
     unfold c_phedge_finder_put;clear ho hh;rcases hc with rfl|hc
     ·simp(disch := omega) [-List.reduceReplicate,FFK,FHK,ktPK,hget,hfit,e1,e2,a3,a4,b3,b4]
     ·have hc' : (k.cost : Int) <= s.cost := by omega
      cases d
      ·simp(disch := omega) [-List.reduceReplicate,FFK,FHK,ktPK,hget,hfit,hc',e1,e2,a3,a4,b3,b4]
      ·simp(disch := omega) [-List.reduceReplicate,FFK,FHK,ktPK,hget,hfit,e1,e2,a3,a4,b3,b4]
    ·simp only[hc,if_false]
     have hd : d = false := by cases d <;> simp_all
     have hc' : ¬ (k.cost : Int) <= s.cost := by omega
     subst hd;refine FnH.of_image mixed Tryz.func132 i_phedge_finder_put rfl λho hh => ?_
     unfold c_phedge_finder_put;clear ho hh;simp(disch := omega) [-List.reduceReplicate,FFK,FHK,ktPK,hget,hfit,hc',e1,e2,a3,a4,b3,b4];refine wcallHD_mkK [0] 1 [0,1,2,3,4,5] (by simp) (by simp[e1,e2,a3,a4,b3,b4]) (by simp) (by simp[FHK,ktPK,hput,e1,e2,a3,a4,b3,b4]) hpush (by simp[FHK]) ?_
     simp(disch := omega) [-List.reduceReplicate,FHK,ktPK,List.range',List.replicate,e1,e2,e3,a3,a4,b3,b4,c3,c4]
end
end Go.Abs.F
end
section
set_option maxHeartbeats 4000000
set_option maxRecDepth 100000
namespace Go.Abs.F
open Go.Proofs
attribute [-simp] getElem?_pos Option.not_isSome List.map_map
theorem f_hedge_add(a b : Nat)(ha : a <= topC)(hb : b <= topC) : Fn Tryz.prog n_hedge_add [.int .i64 a,.int .i64 b] (.int .i64 (addC a b : Nat)) := by
  unfold topC at ha hb;refine yoA i_hedge_add ?_;by_cases h : topC <= a+b
  ·have h1 : (4611686018427387904 : Int)-b <= a := by unfold topC at h;omega
   have h2 : 4611686018427387904 <= a+b := h;simp(disch := omega) [-List.reduceReplicate,addC,h2,h1,topC]
  ·have h1 : ¬ (4611686018427387904 : Int)-b <= a := by unfold topC at h;omega
   have h2 : (a : Int)+b <= 9223372036854775807 := by unfold topC at h;omega
   have h3 : ((a+b : Nat) : Int) = a+b := by omega
   simp(disch := omega) [-List.reduceReplicate,addC,h,h1,h2,h3]
theorem PureV.iface{t : TypeId}{v : V}(h : PureV v) : PureV (.iface t v) := ⟨by simp only[Go.Abs.aF,h.aF],λm => by simp only[Go.Abs.ren,h.ren],λm => by simp only[Go.Abs.bck,h.bck]⟩
section
variable{m : Mch}{n3 n4 : Nat}{o3 o4 : Ob}(hm : PureV m.v)(h3 : Inert o3)(h4 : Inert o4)
include hm h3 h4
theorem f_finder_goOn(S : FSK)(p : Nat×Nat)(t : Nat)(hbig : S.q.length <= 900000000000)(hcm : (markOf S p).1.cost <= topC)(hcs : (srcOf S t).cost <= topC)
    (hp : pur [] m.v = some m.v) (hnext : Fn Tryz.prog n_hedge_together_next [m.v,.int .i64 p.1,.int .i64 p.2,.int .i64 t] (.int .i64 (m.next p.1 p.2 t : Nat))) :
    FnH Tryz.prog n_phedge_finder_goOn [0] [.ptr 0 0,plV p,.int .i64 t] (FFK (.iface ty_hedge_together m.v) S n3 n4 o3 o4) (.tup []) (FFK (.iface ty_hedge_together m.v) (goOnP m p S t) n3 n4 o3 o4) := by
  have e1 := hm.aF;have e2 := hm.ren;have e3 := hm.bck;have a3 := h3.obI;have a4 := h4.obI;have b3 := h3.ren;have b4 := h4.ren;have c3 := h3.bck;have c4 := h4.bck;have hpu : ∀h,pur h m.v = some m.v := λh => (Vb hp).2 h
  have hadd := f_hedge_add (markOf S p).1.cost (srcOf S t).cost hcm hcs;have hput := f_finder_put (n3 := n3) (n4 := n4) hm.iface h3 h4 S ⟨p.1,m.next p.1 p.2 t,addC (markOf S p).1.cost (srcOf S t).cost,p.2,t⟩ hbig (mv := .iface ty_hedge_together m.v);have hgm := mget_M p S.marks;have hgf := mget_F t S.found;unfold goOnP;generalize putP S ⟨p.1,m.next p.1 p.2 t,addC (markOf S p).1.cost (srcOf S t).cost,p.2,t⟩ = T at *;obtain⟨p1,p2⟩ := p;simp only[plV,trV1]at hgm hgf hput hnext hadd⊢;have hfit := fitsK_pl p1 p2;unfold Stp.v at hput;simp only at hput;generalize addC (markOf S (p1,p2)).1.cost (srcOf S t).cost = c at *;generalize m.next p1 p2 t = nx at *
  have gm : lU (V.strct [.int .i64 p1,.int .i64 p2]) (entM S.marks) = some (mkV (markOf S (p1,p2))) \/ (lU (V.strct [.int .i64 p1,.int .i64 p2]) (entM S.marks) = none /\ markOf S (p1,p2) = (.z,false)) := by
    rw[hgm];unfold markOf;cases aget (p1,p2) S.marks <;> simp
  have gf : lU (V.int .i64 t) (entF S.found) = some (Src.v (srcOf S t)) \/ (lU (V.int .i64 t) (entF S.found) = none /\ srcOf S t = ⟨0,0,0⟩) := by
    rw[hgf];unfold srcOf;cases aget t S.found <;> simp
  clear hgm hgf hcm hcs;generalize markOf S (p1,p2) = K at *;generalize srcOf S t = C at *;rcases gm with gm|⟨gm,rfl⟩ <;> rcases gf with gf|⟨gf,rfl⟩
  all_goals
    simp only[mkV,Src.v,Stp.z]at gm gf hadd;refine FnH.of_image mixed Tryz.func134 i_phedge_finder_goOn rfl λho hh => ?_
    unfold c_phedge_finder_goOn;clear ho hh;simp(disch := omega) [-List.reduceReplicate,FFK,FHK,ktPK,ktIK,gm,gf,hfit,e1,e2,a3,a4,b3,b4];refine aw (by simpa using hadd) rfl ?_
    simp(disch := omega) [-List.reduceReplicate,FFK,FHK,hpu,e1,e2,a3,a4,b3,b4];refine aw hnext rfl ?_;simp(disch := omega) [-List.reduceReplicate,FFK,FHK,e1,e2,a3,a4,b3,b4];refine am [0] 1 [0,1,2,3,4,5] (by simp) (by simp[e1,e2,a3,a4,b3,b4]) (by simp) (by simp[FFK,FHK,ktPK,ktIK,e1,e2,a3,a4,b3,b4]) hput (by simp[FFK,FHK]) λ_ _ => ?_
    simp(disch := omega) [-List.reduceReplicate,FFK,FHK,ktPK,ktIK,List.range',List.replicate,e1,e2,e3,a3,a4,b3,b4,c3,c4]
end
end Go.Abs.F
end
section
set_option maxHeartbeats 4000000
set_option maxRecDepth 100000
namespace Go.Abs.F
open Go.Proofs
attribute [-simp] getElem?_pos Option.not_isSome List.map_map
def metR(met : List (List Nat)) : List Rw := sm (met.map λr => r.map trV1)
def FAK(mv : V)(S : FSK) : List (Option Ob) := FFK mv S S.met.length S.trees.length (.mat aN ap 1 (metR S.met)) (.arr ap 1 (S.trees.map trV1))
def FBK(mv : V)(S : FSK) : List (Option Ob) :=
  [some (.box [mv,.ref 2 S.q.length,.ref 3 0,.ref 1 S.met.length,.ref 4 S.trees.length,.ref 5 0]),some (.mat aN ap 1 (metR S.met)),some (.arr ty_hedge_step 5 (S.q.map Stp.v)),some (.mp ktPK (entM S.marks)),some (.arr ap 1 (S.trees.map trV1)),some (.mp ktIK (entF S.found))]
theorem InvB.mcost{m : Mch}{sz : Nat -> Nat}{T : Nat}{S : FSK}{r : Nat×Nat -> Nat}{n b : Nat}(H : InvB m sz T S r n b)(p : Nat×Nat) : (markOf S p).1.cost <= topC := by
  unfold markOf;cases h : aget p S.marks with
  |none => simp[Stp.z]
  |some x => obtain⟨k,d⟩ := x;exact(H.marks p k d h).2.cost
theorem InvB.scost{m : Mch}{sz : Nat -> Nat}{T : Nat}{S : FSK}{r : Nat×Nat -> Nat}{n b : Nat}(H : InvB m sz T S r n b)(t : Nat) : (srcOf S t).cost <= topC := by
  unfold srcOf;cases h : aget t S.found with
  |none => simp
  |some x => exact(H.found t x h).2.2.1
section
variable{m : Mch}{sz : Nat -> Nat}{T : Nat}(hm : PureV m.v)(hp : pur [] m.v = some m.v)(hok : MchOK m sz T)(hsz : ∀n,sz n <= 1000000)(hlab : m.labels <= 1000000)(hT : T <= 1000000)
    (hnext : ∀p t,InP m sz p -> t<T -> Fn Tryz.prog n_hedge_together_next [m.v,.int .i64 p.1,.int .i64 p.2,.int .i64 t] (.int .i64 (m.next p.1 p.2 t : Nat)))
include hm hp hok hsz hlab hT hnext
theorem f_finder_tell(S : FSK)(t : Nat)(c : Src)(r : Nat×Nat -> Nat)(n b : Nat)(H : InvB m sz T { S with found := aput t c S.found,trees := S.trees ++ [t] } r n b)(hbig : b+sumL S.met <= 900000000000)(htr : S.trees.length <= 1000000) :
    FnH Tryz.prog n_phedge_finder_tell [0] [.ptr 0 0,.int .i64 t,c.v] (FAK (.iface ty_hedge_together m.v) S) (.tup []) (FAK (.iface ty_hedge_together m.v) (tellP m t c S)) := by
  have e1 := hm.aF;have e2 := hm.ren;have e3 := hm.bck;have hgf := mput_F t c S.found;have hmet := H.lenm;simp only at hmet;obtain⟨R,hR⟩ : ∃R,tellP m t c S = R := ⟨_,rfl⟩;have hR2 : tellRows m t 0 { S with found := aput t c S.found,trees := S.trees ++ [t] } S.met = R := hR
  rw[hR];clear hR;have hin : t ∈ ({ S with found := aput t c S.found,trees := S.trees ++ [t] } : FSK).trees := by simp
  obtain⟨S0,hS0⟩ : ∃S0,({ S with found := aput t c S.found,trees := S.trees ++ [t] } : FSK) = S0 := ⟨_,rfl⟩
  have hsm : S0.met = S.met := by rw[<- hS0]
  have hst : S0.trees = S.trees ++ [t] := by rw[<- hS0]
  have hsq : S0.q = S.q := by rw[<- hS0]
  have hsk : S0.marks = S.marks := by rw[<- hS0]
  have hsf : S0.found = aput t c S.found := by rw[<- hS0]
  rw[hS0]at H hR2 hin;simp only[trV1,Src.v]at hgf;rw[<- hsm]at hR2 hbig;clear hS0;refine yoH i_phedge_finder_tell ?_;simp(disch := omega) [-List.reduceReplicate,FAK,FFK,FHK,metR,ktPK,ktIK,hgf,Src.v,e1,e2]
  refine ah (λ(x : Nat×FSK) => ⟨[(0,.ptr 0 0),(1,.int .i64 t),(29,.ref 1 x.2.met.length),(30,.int .i64 x.2.met.length),(31,.int .i64 x.1)],FBK (.iface ty_hedge_together m.v) x.2⟩)
    (λx => x.1 <= x.2.met.length /\ x.2.met = S0.met /\ x.2.trees = S0.trees /\ tellRows m t x.1 x.2 (x.2.met.drop x.1) = R /\ ∃b',InvB m sz T x.2 r n b' /\ b'+sumL (x.2.met.drop x.1) <= 900000000000) (λx => x.2.met.length-x.1) [] _ (0,S0) rfl
    (by simp[FBK,hsm,hst,hsq,hsk,hsf,metR,trV1,ktPK,ktIK,e1,e2]) ⟨by simp,rfl,rfl,by simpa using hR2,b,H,by simpa using hbig⟩ ?_
  rintro⟨k,X⟩ ⟨hk,hxm,hxt,hrow,b1,HX,hb1⟩ N hN;simp only at hk hxm hxt hrow HX hb1;rcases place X.met k hk with⟨he,hd⟩|⟨hlt,row,hrow1,hd⟩ <;> rw[hd]at hrow hb1
  ·simp only[tellRows]at hrow
   subst hrow;simp(disch := omega) [-List.reduceReplicate,FBK,FAK,FFK,FHK,metR,ktPK,ktIK,he,e1,e2]
  ·simp only[tellRows,sumL]at hrow hb1
   have hk2 : k<m.labels+1 := by rw[<- HX.lenm];exact hlt
   have hdone : ∀s ∈ row,doneP X (k,s) := HX.met k row hrow1;have hrl : row.length <= 900000000000 := by omega
   simp(disch := omega) [-List.reduceReplicate,FBK,metR,hrow1,e1,e2]
   refine ah (λ(y : Nat×FSK) => ⟨[(0,.ptr 0 0),(1,.int .i64 t),(6,.int .i64 k),(29,.ref 1 y.2.met.length),(30,.int .i64 y.2.met.length),(31,.int .i64 k),(36,.mref 1 k row.length),(37,.int .i64 row.length),(38,.int .i64 y.1)],FBK (.iface ty_hedge_together m.v) y.2⟩)
     (λy => y.1 <= row.length /\ y.2.met = X.met /\ y.2.trees = X.trees /\ (∀s ∈ row,doneP y.2 (k,s)) /\ tellRows m t (k+1) (tellRow m k t y.2 (row.drop y.1)) (X.met.drop (k+1)) = R /\ ∃b',InvB m sz T y.2 r n b' /\ b'+(row.length-y.1)+sumL (X.met.drop (k+1)) <= 900000000000) (λy => row.length-y.1) [] _ (0,X) rfl
     (by simp[FBK,metR,hrow1,e1,e2]) ⟨by simp,rfl,rfl,hdone,by simpa using hrow,b1,HX,by simp only;omega⟩ ?_
   clear hrow hdone HX hb1;rintro⟨i,Y⟩ ⟨hi,hym,hyt,hyd,hyr,b2,HY,hb2⟩ N' hN';simp only at hi hym hyt hyd hyr HY hb2;have hyrow : Y.met[k]? = some row := by rw[hym];exact hrow1
   rcases place row i hi with⟨he,hd2⟩|⟨hlt2,s,hs,hd2⟩ <;> rw[hd2]at hyr
   ·simp only[F.tellRow]at hyr
    clear hN';simp(disch := omega) [-List.reduceReplicate,FBK,metR,he,e1,e2];exact hN.out _ <| Nx.mk (k+1,Y) (by simp[FBK,metR,e1,e2]) ⟨by simp only;rw[hym];omega,by simp only;rw[hym,hxm],by simp only;rw[hyt,hxt],by simp only;rw[hym];exact hyr,b2,HY,by simp only;rw[hym];omega⟩ (by simp only;rw[hym];omega)
   ·simp only[F.tellRow]at hyr
    have hsm' := hyd s (List.mem_of_getElem? hs);have hin' : t ∈ Y.trees := by rw[hyt,hxt];exact hin
    have hIP := HY.done_in hsm';have hgo := λc : Value => f_finder_goOn (n3 := 0) (n4 := Y.trees.length) hm (Inert.tok (c := c)) (Inert.arr (e := ap) (sz := 1) (l := Y.trees.map trV1)) Y (k,s) t (by have := HY.qlen;omega) (HY.mcost _) (HY.scost _) hp (hnext _ _ hIP (HY.trees t hin').1)
    obtain⟨g1,g2,g3,g4⟩ := goOn_met m (k,s) Y t;have HZ := HY.goOn hok hsm' hIP hin';clear hN;simp(disch := omega) [-List.reduceReplicate,FBK,metR,hyrow,hs,trV1,e1,e2];simp only[plV]at hgo;generalize goOnP m (k,s) Y t = Z at *
    refine wcallH_hid (H := λc => FFK (.iface ty_hedge_together m.v) Y 0 Y.trees.length (.tok c) (.arr ap 1 (Y.trees.map trV1))) (H' := λc => FFK (.iface ty_hedge_together m.v) Z 0 Y.trees.length (.tok c) (.arr ap 1 (Y.trees.map trV1))) 29 0 3 1 Y.met.length [.iface ty_hedge_together m.v,.ref 2 Y.q.length,.ref 3 0,.ref 1 Y.met.length,.ref 4 Y.trees.length,.ref 5 0] [0] 1 [0,2,3,6,4,5]
      (by simp) (by simp) (by simp[akl]) (by simp) (by simp) (λc => by simp) (λc => by simp[e1,e2]) (by simp) (λc => by simp[FFK,FHK,ktPK,ktIK,e1,e2]) hgo (λc => by simp[FFK,FHK]) λc _ _ => ?_
    simp(disch := omega) [-List.reduceReplicate,FFK,FHK,metR,ktPK,ktIK,List.range',List.replicate,e1,e2,e3];exact hN'.out _ <| Nx.mk (i+1,Z) (by simp[FBK,metR,ktPK,ktIK,g1,g2,e1,e2]) ⟨by simp only;omega,by simp only;rw[g1,hym],by simp only;rw[g2,hyt],λs' hs' => (g4 _).2 (hyd s' hs'),hyr,_,HZ,by simp only;omega⟩ (by simp only;omega)
end
end Go.Abs.F
end
section
set_option maxHeartbeats 4000000
set_option maxRecDepth 100000
namespace Go.Abs.F
open Go.Proofs
attribute [-simp] getElem?_pos Option.not_isSome List.map_map
def FCK(mv : V)(S : FSK) : List (Option Ob) :=
  [some (.box [mv,.ref 2 S.q.length,.ref 3 0,.ref 4 S.met.length,.ref 5 S.trees.length,.ref 6 0]),some (.box [.int .i64 0,.int .i64 0,.int .i64 0,.int .i64 0,.int .i64 0]),some (.arr ty_hedge_step 5 (S.q.map Stp.v)),some (.mp ktPK (entM S.marks)),some (.mat aN ap 1 (metR S.met)),some (.arr ap 1 (S.trees.map trV1)),some (.mp ktIK (entF S.found))]
def FDK(mv : V)(S : FSK)(s : Stp) : List (Option Ob) :=
  [some (.box [mv,.ref 3 S.q.length,.ref 4 0,.ref 5 S.met.length,.ref 6 S.trees.length,.ref 7 0]),some (.box [.int .i64 0,.int .i64 0,.int .i64 0,.int .i64 0,.int .i64 0]),some (.box [.int .i64 s.num,.int .i64 s.st,.int .i64 s.cost,.int .i64 s.src,.int .i64 s.tree]),some (.arr ty_hedge_step 5 (S.q.map Stp.v)),some (.mp ktPK (entM S.marks)),some (.mat aN ap 1 (metR S.met)),some (.arr ap 1 (S.trees.map trV1)),some (.mp ktIK (entF S.found))]
def FE(mv : V)(S : FSK)(s : Stp) : List (Option Ob) :=
  [some (.box [mv,.ref 4 S.q.length,.ref 5 0,.ref 6 S.met.length,.ref 3 S.trees.length,.ref 7 0]),some (.box [.int .i64 0,.int .i64 0,.int .i64 0,.int .i64 0,.int .i64 0]),some (.box [.int .i64 s.num,.int .i64 s.st,.int .i64 s.cost,.int .i64 s.src,.int .i64 s.tree]),some (.arr ap 1 (S.trees.map trV1)),some (.arr ty_hedge_step 5 (S.q.map Stp.v)),some (.mp ktPK (entM S.marks)),some (.mat aN ap 1 (metR S.met)),some (.mp ktIK (entF S.found))]
theorem sumL_le : ∀(l : List (List Nat))(i : Nat)(row : List Nat),l[i]? = some row -> row.length <= sumL l
  |[],i,row,h => by simp at h
  |r :: l,0,row,h => by simp at h;subst h;simp[sumL]
  |r :: l,i+1,row,h => by
    simp only[List.getElem?_cons_succ]at h;have := sumL_le l i row h;simp only[sumL];omega
section
variable{m : Mch}{sz : Nat -> Nat}{T : Nat}(hm : PureV m.v)(hp : pur [] m.v = some m.v)(hok : MchOK m sz T)(hsz : ∀n,sz n <= 1000000)(hlab : m.labels <= 1000000)(hT : T <= 1000000)
    (hnext : ∀p t,InP m sz p -> t<T -> Fn Tryz.prog n_hedge_together_next [m.v,.int .i64 p.1,.int .i64 p.2,.int .i64 t] (.int .i64 (m.next p.1 p.2 t : Nat)))
    (hout : ∀p,InP m sz p -> Fn Tryz.prog n_hedge_together_out [m.v,.int .i64 p.1,.int .i64 p.2] (.int .i64 (m.out p.1 p.2 : Nat)))
    (hlb : Fn Tryz.prog n_hedge_together_labels [m.v] (.int .i64 m.labels))
    (hP : (allP m sz).length <= 1000000000000) (hPT : m.labels+1+((allP m sz).length+1)*(T+1) <= 800000000000)
include hm hp hok hsz hlab hT hnext hout hlb hP hPT
theorem InvF.big{S : FSK}{r : Nat×Nat -> Nat}{n : Nat}(H : InvF m sz T S r n) : m.labels+1+(sumL S.met+1)*(S.trees.length+1) <= 800000000000 /\ S.q.length <= 800000000000 := by
  have h1 := H.sum;have h2 := H.trees;have h3 : (sumL S.met+1)*(S.trees.length+1) <= ((allP m sz).length+1)*(T+1) := Nat.mul_le_mul (by omega) (by omega)
  have h4 := H.b.qlen;have h5 : sumL S.met*S.trees.length <= (sumL S.met+1)*(S.trees.length+1) := Nat.mul_le_mul (by omega) (by omega)
  constructor <;> omega
theorem W_run2{Y : FSK}{s : Stp}{r : Nat×Nat -> Nat}{n : Nat}(H1 : InvF m sz T Y r n)(hs : SOK m sz Y s)(hdn : ¬ doneP Y s.pl)(Q : Ex -> St -> Prop)
    (k : ∀τ : St,τ.nrm [0,2] = ⟨[(0,.ptr 0 0),(2,.ptr 1 0)],FCK (.iface ty_hedge_together m.v) (stepPK m Y s)⟩ -> Q .norm τ) :
    W (Cn Tryz.prog) ac_run2 Q ⟨[(0,.ptr 0 0),(2,.ptr 1 0),(4,.ptr 2 0),(5,.int .i64 (m.out s.num s.st)),(6,.bool (decide ((s.num : Int) = m.labels))),(63,.bool false)],FDK (.iface ty_hedge_together m.v) { Y with marks := aput s.pl (s,true) Y.marks } s⟩ := by
  have e1 := hm.aF;have e2 := hm.ren;have e3 := hm.bck;obtain⟨hbig1,hbig2⟩ := InvF.big hm hp hok hsz hlab hT hnext hout hlb hP hPT H1;obtain⟨row,hrow⟩ := stepP_met hok H1 hs;have hrl := sumL_le _ _ _ hrow;have hnlt : s.num<Y.met.length := (List.getElem?_eq_some_iff.1 hrow).1;have hsum := H1.sum;have htook : ∀k,vG ((sm (Y.met.map λr => r.map trV1)).set s.num (.g k)) s.num = some k := λk => ahX (by simpa using hnlt)
  obtain⟨h1,h2,h3,h4⟩ := markP_inv H1 hs hdn
  have hb0 : m.labels+1+sumL Y.met*Y.trees.length+Y.trees.length <= 800000000000 := by
    have : sumL Y.met*Y.trees.length+Y.trees.length+sumL Y.met+1 = (sumL Y.met+1)*(Y.trees.length+1) := by rw[Nat.add_mul,Nat.mul_add];omega
    omega
  have htl := H1.trees;rw[stepP_eq]at k;have q1 : (markP Y s).trees = Y.trees := rfl;have q2 : (markP Y s).q = Y.q := rfl;have q3 : (markP Y s).found = Y.found := rfl;have q4 : (markP Y s).marks = aput s.pl (s,true) Y.marks := rfl;have q5 : (markP Y s).met = Y.met.set s.num (row ++ [s.st]) := by simp only[markP,hrow,Option.getD_some]
  have q6 : metR (markP Y s).met = sm ((Y.met.map λr => r.map trV1).set s.num (row.map trV1 ++ [.int .i64 s.st])) := by
    rw[q5];simp[metR,List.map_set,trV1]
  have hml : (markP Y s).met.length = Y.met.length := by rw[q5];simp
  obtain⟨G,hG⟩ : ∃G,goOnsP m s.pl (markP Y s) (markP Y s).trees = G := ⟨_,rfl⟩;rw[hG]at k;obtain⟨root,hroot⟩ : ∃root : Bool,decide ((s.num : Int) = m.labels) = root := ⟨_,rfl⟩;rw[hroot];unfold ac_run2 ot_run;simp(disch := omega) [-List.reduceReplicate,FDK,metR,hrow,hnlt,e1,e2]
  refine wboth_K ⟨[(0,.ptr 0 0),(2,.ptr 1 0),(4,.ptr 2 0),(5,.int .i64 (m.out s.num s.st)),(6,.bool root)],
    [some (.box [.iface ty_hedge_together m.v,.ref 3 Y.q.length,.ref 4 0,.ref 5 Y.met.length,.ref 6 Y.trees.length,.ref 7 0]),some (.box [.int .i64 0,.int .i64 0,.int .i64 0,.int .i64 0,.int .i64 0]),some (.box [.int .i64 s.num,.int .i64 s.st,.int .i64 s.cost,.int .i64 s.src,.int .i64 s.tree]),some (.arr ty_hedge_step 5 (Y.q.map Stp.v)),some (.mp ktPK (entM (aput s.pl (s,true) Y.marks))),some (.mat aN ap 1 (sm ((Y.met.map λr => r.map trV1).set s.num (row.map trV1 ++ [.int .i64 s.st])))),some (.arr ap 1 (Y.trees.map trV1)),some (.mp ktIK (entF Y.found))]⟩ (λF hF => ?_) ?_
  ·simp only[ktPK,ktIK,ty_hedge_together,ty_hedge_step,aN,ap]at hF
   repeat' (first
     |with_reducible exact hF
     |refine QU.mk ?_ ?_
     |(simp(disch := omega) [-List.reduceReplicate,ktPK,ktIK,hrow,hnlt,htook,e1,e2]))
  simp(disch := omega) [-List.reduceReplicate,e1,e2]
  refine ah (λ(x : Nat×FSK) => ⟨[(0,.ptr 0 0),(2,.ptr 1 0),(4,.ptr 2 0),(5,.int .i64 (m.out s.num s.st)),(6,.bool root),(90,.ref 3 x.2.trees.length),(91,.int .i64 x.2.trees.length),(92,.int .i64 x.1)],FE (.iface ty_hedge_together m.v) x.2 s⟩)
    (λx => x.1 <= x.2.trees.length /\ x.2.met = (markP Y s).met /\ x.2.trees = Y.trees /\ doneP x.2 s.pl /\ goOnsP m s.pl x.2 (x.2.trees.drop x.1) = G /\ ∃b',InvB m sz T x.2 (updR r s.pl n) (n+1) b' /\ b'+(x.2.trees.length-x.1) <= m.labels+1+sumL Y.met*Y.trees.length+Y.trees.length) (λx => x.2.trees.length-x.1) [] _ (0,markP Y s) rfl
    (by simp[FE,q1,q2,q3,q4,q6,hml,ktPK,ktIK,e1,e2]) ⟨by simp,rfl,q1,(h2 _).2 (.inl rfl),by simpa using hG,_,h1,by simp only[q1];omega⟩ ?_
  clear hG;rintro⟨i,Z⟩ ⟨hi,hzm,hzt,hzd,hzg,b',HZ,hb'⟩ N hN;simp only at hi hzm hzt hzd hzg HZ hb';have hzl : Z.trees.length <= 1000000 := by rw[hzt];omega
  rcases place Z.trees i hi with⟨he,hd⟩|⟨hlt,t,ht,hd⟩ <;> rw[hd]at hzg
  ·simp only[goOnsP]at hzg
   subst hzg;clear hN;have hgf := mget_F (m.out s.num s.st) Z.found;simp only[trV1]at hgf;have hzq := HZ.qlen;have hfr : ∀(c : Src)(b : Bool),True := λ_ _ => trivial
   by_cases hrt : s.num = m.labels
   ·have hr1 : root = true := by rw[<- hroot];simp[hrt]
    subst hr1;rw[if_neg (λh => h.1 hrt)]at k
    cases ha : aget (m.out s.num s.st) Z.found with
    |none =>
      rw[ha]at hgf;simp only[Option.map_none]at hgf;simp(disch := omega) [-List.reduceReplicate,FE,he,ktIK,hgf,e1,e2];exact k _ (by simp[FCK,ktPK,ktIK,e1,e2])
    |some c =>
      rw[ha]at hgf;simp only[Option.map_some,Src.v]at hgf;simp(disch := omega) [-List.reduceReplicate,FE,he,ktIK,hgf,e1,e2];exact k _ (by simp[FCK,ktPK,ktIK,e1,e2])
   ·have hr1 : root = false := by
      rw[<- hroot];simp only[decide_eq_false_iff_not];omega
    subst hr1;cases ha : aget (m.out s.num s.st) Z.found with
    |some c =>
      rw[ha]at hgf;simp only[Option.map_some,Src.v]at hgf;rw[if_neg (λh => by rw[ha]at h;cases h.2)]at k
      simp(disch := omega) [-List.reduceReplicate,FE,he,ktIK,hgf,e1,e2];exact k _ (by simp[FCK,ktPK,ktIK,e1,e2])
    |none =>
      rw[ha]at hgf;simp only[Option.map_none]at hgf;rw[if_pos ⟨hrt,ha⟩]at k;have hnum : s.num<m.labels := by have := hs.pl.1;simp only[Stp.pl]at this;omega
      have hf := HZ.find (t := m.out s.num s.st) (hok.out _ hnum _ hs.pl.2) ha (c := ⟨s.num,s.st,addC s.cost 1⟩) hnum (addC_le _ _) hzd;have hsz2 : sumL Z.met = sumL Y.met+1 := by rw[hzm];exact h3
      have hbb : b'+sumL Z.met <= 900000000000 := by
        rw[hsz2];have : sumL Y.met*Y.trees.length+Y.trees.length+sumL Y.met+1 = (sumL Y.met+1)*(Y.trees.length+1) := by rw[Nat.add_mul,Nat.mul_add];omega
        rw[hzt]at hb';omega
      have htell := f_finder_tell hm hp hok hsz hlab hT hnext Z (m.out s.num s.st) ⟨s.num,s.st,addC s.cost 1⟩ _ _ _ hf hbb (by rw[hzt];have := H1.trees;omega)
      have hadd := f_hedge_add s.cost 1 hs.cost (by simp[topC])
      simp only[Src.v]at htell;generalize tellP m (m.out s.num s.st) ⟨s.num,s.st,addC s.cost 1⟩ Z = R at *;simp(disch := omega) [-List.reduceReplicate,FE,he,ktIK,hgf,e1,e2];refine aw (by simpa using hadd) rfl ?_
      simp(disch := omega) [-List.reduceReplicate,e1,e2];refine wcallHD_mkK [0] 1 [0,4,5,6,3,7] (by simp) (by simp[e1,e2]) (by simp) (by simp[FAK,FFK,FHK,ktPK,ktIK,e1,e2]) htell (by simp[FAK,FFK,FHK]) ?_
      simp(disch := omega) [-List.reduceReplicate,FAK,FFK,FHK,ktPK,ktIK,List.range',List.replicate,e1,e2,e3];exact k _ (by simp[FCK,ktPK,ktIK,e1,e2])
  ·simp only[goOnsP]at hzg
   have hin : t ∈ Z.trees := List.mem_of_getElem? ht;have hgo := λc : Value => f_finder_goOn (n3 := Z.met.length) (n4 := 0) hm (Inert.mat (e := aN) (e2 := ap) (sz := 1) (l := metR Z.met)) (Inert.tok (c := c)) Z s.pl t (by have := HZ.qlen;omega) (HZ.mcost _) (HZ.scost _) hp (hnext _ _ hs.pl (HZ.trees t hin).1)
   obtain⟨g1,g2,g3,g4⟩ := goOn_met m s.pl Z t;have HW := HZ.goOn hok hzd hs.pl hin;simp(disch := omega) [-List.reduceReplicate,FE,ht,trV1,e1,e2];simp only[plV,Stp.pl]at hgo;generalize hZZ : goOnP m s.pl Z t = ZZ at *;have hZ2 : goOnP m (s.num,s.st) Z t = ZZ := hZZ;rw[hZ2]at hgo
   refine wcallH_hid (H := λc => FFK (.iface ty_hedge_together m.v) Z Z.met.length 0 (.mat aN ap 1 (metR Z.met)) (.tok c)) (H' := λc => FFK (.iface ty_hedge_together m.v) ZZ Z.met.length 0 (.mat aN ap 1 (metR Z.met)) (.tok c)) 90 0 4 3 Z.trees.length [.iface ty_hedge_together m.v,.ref 4 Z.q.length,.ref 5 0,.ref 6 Z.met.length,.ref 3 Z.trees.length,.ref 7 0] [0] 1 [0,4,5,6,8,7]
     (by simp) (by simp) (by simp) (by simp) (by simp) (λc => by simp) (λc => by simp[e1,e2]) (by simp) (λc => by simp[FFK,FHK,ktPK,ktIK,e1,e2]) hgo (λc => by simp[FFK,FHK]) λc _ _ => ?_
   simp(disch := omega) [-List.reduceReplicate,FFK,FHK,ktPK,ktIK,List.range',List.replicate,e1,e2,e3];exact hN.out _ <| Nx.mk (i+1,ZZ) (by simp[FE,ktPK,ktIK,g1,g2,e1,e2]) ⟨by simp only;rw[g2];omega,by simp only;rw[g1,hzm],by simp only;rw[g2,hzt],(g4 _).2 hzd,by simp only;rw[g2];exact hzg,_,HW,by simp only;rw[g2];omega⟩ (by simp only;rw[g2];omega)
end
end Go.Abs.F
end
section
set_option maxHeartbeats 4000000
set_option maxRecDepth 100000
namespace Go.Abs.F
open Go.Proofs
attribute [-simp] getElem?_pos Option.not_isSome List.map_map
section
variable{m : Mch}{sz : Nat -> Nat}{T : Nat}(hm : PureV m.v)(hp : pur [] m.v = some m.v)(hok : MchOK m sz T)(hsz : ∀n,sz n <= 1000000)(hlab : m.labels <= 1000000)(hT : T <= 1000000)
    (hnext : ∀p t,InP m sz p -> t<T -> Fn Tryz.prog n_hedge_together_next [m.v,.int .i64 p.1,.int .i64 p.2,.int .i64 t] (.int .i64 (m.next p.1 p.2 t : Nat)))
    (hout : ∀p,InP m sz p -> Fn Tryz.prog n_hedge_together_out [m.v,.int .i64 p.1,.int .i64 p.2] (.int .i64 (m.out p.1 p.2 : Nat)))
    (hlb : Fn Tryz.prog n_hedge_together_labels [m.v] (.int .i64 m.labels))
    (hP : (allP m sz).length <= 1000000000000) (hPT : m.labels+1+((allP m sz).length+1)*(T+1) <= 800000000000)
include hm hp hok hsz hlab hT hnext hout hlb hP hPT
theorem f_finder_run(fuel : Nat)(S : FSK)(r : Nat×Nat -> Nat)(n : Nat)(H : InvF m sz T S r n)(x : Option Stp)(S' : FSK)(hrun : runP m fuel S = some (x,S')) :
    FnH Tryz.prog n_phedge_finder_run [0] [.ptr 0 0] (FAK (.iface ty_hedge_together m.v) S) (.tup [(x.getD .z).v,.bool x.isSome]) (FAK (.iface ty_hedge_together m.v) S') := by
  have e1 := hm.aF;have e2 := hm.ren;have e3 := hm.bck;have hpu : ∀h,pur h m.v = some m.v := λh => (Vb hp).2 h
  refine FnH.of_image mixed Tryz.func102 i_phedge_finder_run rfl λho hh => ?_
  unfold c_phedge_finder_run;clear ho hh;simp(disch := omega) [-List.reduceReplicate,FAK,FFK,FHK,e1,e2]
  refine ah (λ(y : Nat×FSK) => ⟨[(0,.ptr 0 0),(2,.ptr 1 0)],FCK (.iface ty_hedge_together m.v) y.2⟩) (λy => runP m y.1 y.2 = some (x,S') /\ ∃r n,InvF m sz T y.2 r n) (λy => y.1) [] _ (fuel,S) rfl
    (by simp[FCK,e1,e2]) ⟨hrun,r,n,H⟩ ?_
  clear hrun H;rintro⟨f,X⟩ ⟨hrun,r,n,H⟩ N hN;simp only at hrun H;cases f with
  |zero => simp[runP]at hrun
  |succ f =>
  simp only[runP]at hrun;obtain⟨hbig1,hbig2⟩ := InvF.big hm hp hok hsz hlab hT hnext hout hlb hP hPT H;by_cases h0 : X.q.length = 0
  ·rw[if_pos h0]at hrun
   simp only[Option.some.injEq,Prod.mk.injEq]at hrun;obtain⟨rfl,rfl⟩ := hrun;simp(disch := omega) [-List.reduceReplicate,FCK,FAK,FFK,FHK,h0,Stp.v,Stp.z,e1,e2]
  ·rw[if_neg h0]at hrun
   have hpos : 0<X.q.length := by omega
   have hpos' : (0 : Int)<X.q.length := by omega
   obtain⟨H1,hs⟩ := H.take hpos;obtain⟨⟨K,d⟩,hkn⟩ := H.known hpos;have hpop := f_heap_Pop (n3 := X.met.length) (n4 := X.trees.length) (o2 := .mp ktPK (entM X.marks)) (o3 := .mat aN ap 1 (metR X.met)) (o4 := .arr ap 1 (X.trees.map trV1)) (o5 := .mp ktIK (entF X.found)) hm.iface .mp .mat .arr .mp X.q hpos (by omega) (mv := .iface ty_hedge_together m.v)
   have t1 : (takeP X).2.met = X.met := rfl;have t2 : (takeP X).2.trees = X.trees := rfl;have t3 : (takeP X).2.found = X.found := rfl;have t4 : (takeP X).2.marks = X.marks := rfl;have t5 : (takeP X).2.q = (popS X.q).take (X.q.length-1) := rfl;have t6 : (takeP X).1 = getS (popS X.q) (X.q.length-1) := rfl;rw[<- t5,<- t6]at hpop;have hmk : markOf (takeP X).2 (takeP X).1.pl = (K,d) := by unfold markOf;rw[t4,hkn];rfl
   rw[hmk]at hrun;generalize(takeP X).1 = s at *;generalize hY : (takeP X).2 = Y at *;clear hY t5 t6;unfold Stp.v at hpop;simp(disch := omega) [-List.reduceReplicate,FCK,hpos',e1,e2];refine am [0] 1 [0,2,3,4,5,6] (by simp) (by simp[e1,e2]) (by simp) (by simp[FHK,e1,e2]) hpop (by simp[FHK]) λ_ _ => ?_
   have gm := mget_M s.pl X.marks;rw[hkn]at gm;simp only[plV,Stp.pl,Option.map_some,mkV]at gm;have hfit := fitsK_pl s.num s.st;cases d with
   |true =>
     simp only[if_true]at hrun;simp(disch := omega) [-List.reduceReplicate,FHK,ktPK,gm,hfit,List.range',List.replicate,e1,e2,e3];exact hN.out _ <| Nx.mk (f,Y) (by simp[FCK,ktPK,<- t1,<- t2,<- t3,<- t4,e1,e2]) ⟨hrun,r,n,H1⟩ (by simp only;omega)
   |false =>
     simp only[Bool.false_eq_true,if_false]at hrun;have hdn : ¬ doneP Y s.pl := λh => by rw[doneP_iff,hmk]at h;cases h
     have hputM := mput_M s.pl (s,true) X.marks;simp only[plV,mkV,Stp.pl]at hputM;have hou := hout s.pl hs.pl;simp only[Stp.pl]at hou;simp(disch := omega) [-List.reduceReplicate,FHK,ktPK,gm,hfit,hputM,hpu,List.range',List.replicate,e1,e2,e3];refine aw hou rfl ?_;simp(disch := omega) [-List.reduceReplicate,hpu,List.range',List.replicate,e1,e2,e3]
     refine wboth_K ⟨[(0,.ptr 0 0),(2,.ptr 1 0),(4,.ptr 2 0),(5,.int .i64 (m.out s.num s.st)),(6,.bool (decide ((s.num : Int) = m.labels)))],
       [some (.box [.iface ty_hedge_together m.v,.ref 3 Y.q.length,.ref 4 0,.ref 5 X.met.length,.ref 6 X.trees.length,.ref 7 0]),some (.box [.int .i64 0,.int .i64 0,.int .i64 0,.int .i64 0,.int .i64 0]),some (.box [.int .i64 s.num,.int .i64 s.st,.int .i64 s.cost,.int .i64 s.src,.int .i64 s.tree]),some (.arr ty_hedge_step 5 (Y.q.map Stp.v)),some (.mp ktPK (entM (aput (s.num,s.st) (s,true) X.marks))),some (.mat aN ap 1 (metR X.met)),some (.arr ap 1 (X.trees.map trV1)),some (.mp ktIK (entF X.found))]⟩ (λF hF => ?_) ?_
     ·simp only[ktPK,ktIK,ty_hedge_together,ty_hedge_step,aN,ap]at hF
      repeat' (first
        |with_reducible exact hF
        |refine QU.mk ?_ ?_
        |refine aw hlb rfl ?_
        |(simp(disch := omega) [-List.reduceReplicate,ktPK,ktIK,hpu,List.range',List.replicate,e1,e2,e3]))
     by_cases hr : s.num = m.labels /\ m.out s.num s.st = 1
     ·rw[if_pos hr]at hrun
      simp only[Option.some.injEq,Prod.mk.injEq]at hrun;obtain⟨rfl,rfl⟩ := hrun;rw[show decide ((s.num : Int) = m.labels) = true by simp[hr.1]]
      simp(disch := omega) [-List.reduceReplicate,hr.2,FAK,FFK,FHK,ktPK,ktIK,t1,t2,t3,t4,Stp.v,Stp.pl,e1,e2]
     ·rw[if_neg hr]at hrun
      have hw := W_run2 hm hp hok hsz hlab hT hnext hout hlb hP hPT H1 hs hdn;simp only[FDK,t1,t2,t3,t4,Stp.pl,ty_hedge_together,ty_hedge_step,aN,ap]at hw;have hN2 : ∀τ : St,τ.nrm [0,2] = ⟨[(0,.ptr 0 0),(2,.ptr 1 0)],FCK (.iface ty_hedge_together m.v) (stepPK m Y s)⟩ -> N τ := λτ hτ => hN.out _ <| Nx.mk (f,stepPK m Y s) hτ ⟨hrun,_,_,(H1.step hok hs hdn).1⟩ (by simp only;omega)
      by_cases g1 : s.num = m.labels
      ·have g2 : ¬ m.out s.num s.st = 1 := λh => hr ⟨g1,h⟩
       have g2' : ¬ (m.out s.num s.st : Int) = 1 := by omega
       have g1' : (s.num : Int) = m.labels := by omega
       rw[show decide ((s.num : Int) = m.labels) = true by simp[g1]]at hw⊢
       simp(disch := omega) [-List.reduceReplicate,g2,g2',e1,e2];refine hw _ λτ hτ => ?_
       simp(disch := omega) [-List.reduceReplicate];exact hN2 τ hτ
      ·have g1' : ¬ (s.num : Int) = m.labels := by omega
       rw[show decide ((s.num : Int) = m.labels) = false by simp;omega]at hw⊢
       simp(disch := omega) [-List.reduceReplicate,e1,e2];refine hw _ λτ hτ => ?_
       simp(disch := omega) [-List.reduceReplicate];exact hN2 τ hτ
end
end Go.Abs.F
end
