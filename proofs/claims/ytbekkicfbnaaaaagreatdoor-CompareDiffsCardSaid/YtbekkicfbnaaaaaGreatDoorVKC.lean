/- How a search begins, and the trees it tells. No condition. -/
import Derived.Test.YtbekkicfbnaaaaaGreatDoorVKB
set_option linter.all false
section
set_option maxHeartbeats 4000000
set_option maxRecDepth 100000
namespace Go.Abs.F
open Go.Proofs Go.RowKit
attribute [-simp] getElem?_pos Option.not_isSome List.map_map
def revK(l : List V)(i : Nat) : List V := (l.reverse.take i) ++ ((l.drop i).take (l.length-2*i)) ++ l.reverse.drop (l.length-i)
theorem revK_len{l : List V}{i : Nat}(h : 2*i <= l.length) : (revK l i).length = l.length := by simp[revK];omega
theorem revK_zero(l : List V) : revK l 0 = l := by simp[revK]
theorem revK_at{l : List V}{i : Nat}(h : 2*i <= l.length)(k : Nat) : (revK l i)[k]? = if k<i \/ l.length-i <= k then l.reverse[k]? else l[k]? := by
  unfold revK;rcases Nat.lt_or_ge k i with h1|h1
  ·rw[List.append_assoc,List.getElem?_append_left (by simp;omega),if_pos (.inl h1),List.getElem?_take,if_pos h1]
  ·rcases Nat.lt_or_ge k (l.length-i)with h2|h2
   ·rw[List.getElem?_append_left (by simp;omega),List.getElem?_append_right (by simp;omega),if_neg (by omega),List.getElem?_take,List.getElem?_drop]
    have e : k-(l.reverse.take i).length = k-i := by simp;omega
    rw[e,if_pos (by omega)]
    congr 1;omega
   ·rw[List.getElem?_append_right (by simp;omega),if_pos (.inr h2),List.getElem?_drop]
    congr 1;simp;omega
theorem revK_step{l : List V}{i : Nat}(h : 2*i+1<l.length){a b : V}(ha : l[i]? = some a)(hb : l[l.length-1-i]? = some b) : ((revK l i).set i b).set (l.length-1-i) a = revK l (i+1) := by
  refine List.ext_getElem? λk => ?_
  have hl := revK_len (l := l) (i := i) (by omega)
  rw[revK_at (by omega)]
  by_cases h1 : l.length-1-i = k
  ·subst h1
   rw[List.getElem?_set_self (by simp[hl];omega),if_pos (.inr (by omega)),List.getElem?_reverse (by omega)]
   rw[show l.length-1-(l.length-1-i) = i by omega,ha]
  ·rw[List.getElem?_set_ne h1]
   by_cases h2 : i = k
   ·subst h2
    rw[List.getElem?_set_self (by rw[hl];omega),if_pos (.inl (by omega)),List.getElem?_reverse (by omega),hb]
   ·rw[List.getElem?_set_ne h2,revK_at (by omega)]
    by_cases h3 : k<i \/ l.length-i <= k
    ·rw[if_pos h3,if_pos (by omega)]
    ·rw[if_neg h3,if_neg (by omega)]
theorem revK_full{l : List V}{i : Nat}(h : 2*i <= l.length)(h2 : l.length <= 2*i+1) : revK l i = l.reverse := by
  refine List.ext_getElem? λk => ?_
  rw[revK_at h];split
  ·rfl
  ·rename_i hk
   rw[List.getElem?_reverse (by omega)]
   congr 1;omega
theorem f_rev_trees(ts : List Tr)(hl : ts.length <= 1000000000) : FnH Tryz.prog n_slices_ReverseIIapi_Tree_api_Tree [0] [.ref 0 ts.length] [some (.arr bG 2 (ts.map Tr.v))] (.tup []) [some (.arr bG 2 (ts.reverse.map Tr.v))] := by
  refine yoH i_slices_ReverseIIapi_Tree_api_Tree ?_;obtain⟨l,hld⟩ : ∃l,l = ts.map Tr.v := ⟨_,rfl⟩;have hll : l.length = ts.length := by simp[hld]
  have hrev : ts.reverse.map Tr.v = l.reverse := by rw[hld,List.map_reverse]
  have hget : ∀k,k<l.length -> ∃(x : Nat)(y : List V),l[k]? = some (.strct [.int .i64 x,.seq 2 y]) := λk hk => by
    obtain⟨x,hx⟩ := av (l := ts) (k := k) (by omega)
    exact⟨_,_,by rw[hld,List.getElem?_map,hx,Option.map_some,Tr.v_eq]⟩
  rw[hrev,<- hld,<- hll];rw[<- hll]at hl;clear hrev hld hll;simp(disch := omega) [-List.reduceReplicate];refine ah (λi : Nat => ⟨[(0,.ref 0 l.length),(2,.int .i64 i),(3,.int .i64 ((l.length : Int)-1-i))],[some (.arr bG 2 (revK l i))]⟩) (λi => 2*i <= l.length) (λi => l.length-i) [] _ 0 rfl (by simp[revK_zero]) (by simp) ?_
  intro i hi N hN;have hlen := revK_len hi;rcases Nat.lt_or_ge (2*i+1) l.length with hlt|hge
  ·obtain⟨a1,a2,ha⟩ := hget i (by omega)
   obtain⟨b1,b2,hb⟩ := hget (l.length-1-i) (by omega)
   have h1 := revK_at hi i;have h2 := revK_at hi (l.length-1-i);rw[if_neg (by omega),ha]at h1
   rw[if_neg (by omega),hb]at h2
   have hst := revK_step hlt ha hb;have h3 : ((revK l i).set i (.strct [.int .i64 b1,.seq 2 b2]))[l.length-1-i]? = some (.strct [.int .i64 b1,.seq 2 b2]) := by rw[List.getElem?_set_ne (by omega)];exact h2
   have hj : ((l.length : Int)-1-i).toNat = l.length-1-i := by omega
   have hjl : l.length-1-i<l.length := by omega
   have hji : (l.length : Int)-1-i = ((l.length-1-i : Nat) : Int) := by omega
   rw[hji]at hj⊢;generalize hj0 : l.length-1-i = j at *;simp(disch := omega) [-List.reduceReplicate,hlen,hj,h1,h2,h3,hst];exact hN.out _ <| Nx.mk (i+1) (by simp;omega) (by omega) (by omega)
  ·have := revK_full hi (by omega)
   simp(disch := omega) [-List.reduceReplicate,this]
theorem FnH.purR {P : Program} {f : FuncId} {ps : List Nat} {us : List V} {H H' : List (Option Ob)} {e sz k : Nat} {l : List V} (h : FnH P f ps us H (.ref k l.length) H') (hobj : H'[k]? = some (some (.arr e sz l))) : FnH P f ps us H (.seq sz l) (H'.set k none) := by
  intro M w κ cs J hJC hp hus o a Nx Q hN
  refine h M w κ cs J hJC hp hus o a Nx Q ?_
  intro c M' w' κ' hr hu hh hM1 hM2 hpin
  have HR : Rel cs.size M' (dR κ H w ps cs J) w κ' M' ⟨[], H'⟩ { tmps := cs, defers := [] } w' :=
    { dfr := rfl, jst := hh.jst, pin := fun _ _ => rfl, size := rfl, regs := fun t v ht => (by cases ht), heap := hh.heap, inj := hh.inj, snd := hh.snd, sep := hh.sep
      sub := ⟨fun _ _ h => h, hh.fmS, fun _ _ _ => Nat.zero_le _, Nat.zero_le _, hh.gl⟩, new := fun _ _ h => .inl h, base := rfl, blw := hu }
  obtain ⟨H2, hM⟩ := HR.kill [k] (fun i hi => by
    rw [List.mem_singleton] at hi
    subst hi
    exact ⟨_, hobj⟩)
  have hkl : (St.kill ⟨[], H'⟩ [k]).h = H'.set k none := rfl
  have hpur : pur H' (.ref k l.length) = some (.seq sz l) := by
    show pur1 _ _ _ = _
    unfold pur1
    rw [hobj]
    simp
  have hrep : rep (ext M' w' (rm κ' [k])) NX (.seq sz l) c := by
    refine yf HR hM (fun i hi g hg p hpb => ?_) hr hpur
    simp only [aF, List.mem_singleton] at hi
    subst hi
    unfold ext
    rw [if_pos (eC.2 ⟨i, List.mem_singleton.2 rfl, by rw [hpb]; exact hg⟩)]
  have hX : ∀ v d, XX κ' H' v d → XX κ' (H'.set k none) v d := fun v d hx => abk hx (by simp) (fun _ _ => rfl) (fun _ _ => rfl) (fun i ob hi h => by
    rw [List.getElem?_set] at h
    split at h
    · split at h <;> cases h
    · exact h)
  refine hN c (ext M' w' (rm κ' [k])) w' κ' (aX hrep) hu ?_ (fun p v hv => hM p v (hM1 p v hv)) (fun p v hv => ?_) (fun i hi u d h1 h2 => aO hM hX _ _ (hpin i hi u d h1 h2))
  · exact { heap := fun id ob h => by have := H2.heap id ob (by rw [hkl]; exact h); rwa [hkl] at this
            jst := H2.jst, inj := fun i j oi oj g hi hj => H2.inj i j oi oj g (by rw [hkl]; exact hi) (by rw [hkl]; exact hj), snd := H2.snd, sep := fun p v hv id ob h => H2.sep p v hv id ob (by rw [hkl]; exact h), fmS := H2.sub.fmS, gl := H2.sub.gl.mono H2.sub.sub }
  · rcases H2.new p v hv with h | h
    · exact hM2 p v h
    · exact .inr h
section
variable{mw : V}{ty : TypeId}(hm : PureV mw)
include hm
theorem f_hedge_begin(n : Nat)(hn : n <= 1000000) : FnH Tryz.prog n_hedge_begin [] [.iface ty mw,.int .i64 n] [] (.ptr 0 0) (FAK (.iface ty mw) (beginP n)) := by
  have e1 := hm.aF;have e2 := hm.ren;have e3 := hm.bck;obtain⟨R,hR⟩ : ∃R,R = beginP n := ⟨_,rfl⟩;rw[<- hR];unfold beginP at hR;refine FnH.of_image mixed Tryz.func101 i_hedge_begin rfl λho hh => ?_
  unfold c_hedge_begin;clear ho hh;simp(disch := omega) [-List.reduceReplicate,e1,e2]
  refine ah (λ(x : Nat×FSK) => ⟨[(5,.ptr 0 0),(14,.int .i64 n),(15,.int .i64 x.1)],FAK (.iface ty mw) x.2⟩) (λx => x.1 <= n /\ x.2.q.length <= x.1 /\ beginS (n-x.1) x.2 x.1 = R) (λx => n-x.1) [.b 3 1 ty_hedge_step 5,.b 3 4 ap 1] _ (0,⟨[],[],List.replicate n [],[],[]⟩) rfl
    (by simp[FAK,FFK,FHK,metR,ktPK,ktIK,entM,entF,e1,e2]) ⟨by simp,by simp,by simp[hR]⟩ ?_
  clear hR;rintro⟨k,X⟩ ⟨hk,hq,hb⟩ N hN;simp only at hk hq hb;rcases Nat.lt_or_ge k n with hlt|hge
  ·rw[show n-k = (n-(k+1))+1 by omega]at hb
   simp only[beginS]at hb;have hput := f_finder_put (n3 := X.met.length) (n4 := X.trees.length) (hm.iface (t := ty)) (Inert.mat (e := aN) (e2 := ap) (sz := 1) (l := metR X.met)) (Inert.arr (e := ap) (sz := 1) (l := X.trees.map trV1)) X ⟨k,0,0,-1,-1⟩ (by omega)
   obtain⟨g1,g2,g3⟩ := put_met X ⟨k,0,0,-1,-1⟩
   have hql : (putP X ⟨k,0,0,-1,-1⟩).q.length <= k+1 := by
     unfold putP;split
     ·split
      ·omega
      ·simp only[pushS_len];omega
     ·simp only[pushS_len];omega
   generalize putP X ⟨k,0,0,-1,-1⟩ = Z at *;unfold Stp.v at hput;simp only at hput;have hput2 : FnH Tryz.prog n_phedge_finder_put [0] [.ptr 0 0,.strct [.int .i64 k,.int .i64 0,.int .i64 0,.int .i64 (-1),.int .i64 (-1)]] (FFK (.iface ty mw) X X.met.length X.trees.length (.mat aN ap 1 (metR X.met)) (.arr ap 1 (X.trees.map trV1))) (.tup []) (FFK (.iface ty mw) Z X.met.length X.trees.length (.mat aN ap 1 (metR X.met)) (.arr ap 1 (X.trees.map trV1))) := hput;simp(disch := omega) [-List.reduceReplicate,FAK,FFK,FHK,e1,e2];refine am [0] 1 [0,1,2,3,4,5] (by simp) (by simp[e1,e2]) (by simp) (by simp[FFK,FHK,e1,e2]) hput2 (by simp[FFK,FHK]) λ_ _ => ?_
   simp(disch := omega) [-List.reduceReplicate,FFK,FHK,List.range',List.replicate,e1,e2,e3];exact hN.out _ <| Nx.mk (k+1,Z) (by simp[FAK,FFK,FHK,g1,g2,e1,e2]) ⟨by simp only;omega,hql,hb⟩ (by simp only;omega)
  ·obtain rfl : k = n := by omega
   simp only[Nat.sub_self,beginS]at hb;subst hb;simp(disch := omega) [-List.reduceReplicate,FAK,FFK,FHK,e1,e2]
end
end Go.Abs.F
end
section
set_option maxHeartbeats 4000000
set_option maxRecDepth 100000
namespace Go.Abs.F
open Go.Proofs Go.RowKit
attribute [-simp] getElem?_pos Option.not_isSome List.map_map
def pathF(S : FSK) : Nat -> Nat -> Stp -> Option (List Tr)
  |0,_,_ => none
  |f+1,num,k => if k.tree<0 then some []else
    match pathF S f (srcOf S k.tree.toNat).num (markOf S ((srcOf S k.tree.toNat).num,(srcOf S k.tree.toNat).st)).1 with
    |none => none
    |some kids => match pathF S f num (markOf S (num,k.src.toNat)).1 with
      |none => none
      |some l => some (⟨(srcOf S k.tree.toNat).num,kids.reverse⟩ :: l)
theorem pathF_len{S : FSK} : ∀{f num : Nat}{k : Stp}{l : List Tr},pathF S f num k = some l -> l.length <= f
  |0,num,k,l,h => by simp[pathF]at h
  |f+1,num,k,l,h => by
    simp only[pathF]at h;split at h
    ·cases h;simp
    ·split at h
     ·cases h
     ·split at h
      ·cases h
      ·rename_i l' hl'
       cases h;have := pathF_len hl';simp;omega
def FGK(mv : V)(S : FSK)(o : Option Ob) : List (Option Ob) :=
  [some (.box [mv,.ref 2 S.q.length,.ref 3 0,.ref 4 S.met.length,.ref 5 S.trees.length,.ref 6 0]),o,some (.arr ty_hedge_step 5 (S.q.map Stp.v)),some (.mp ktPK (entM S.marks)),some (.mat aN ap 1 (metR S.met)),some (.arr ap 1 (S.trees.map trV1)),some (.mp ktIK (entF S.found))]
def FP(mv : V)(S : FSK)(acc : List Tr)(k : Stp×Bool) : List (Option Ob) :=
  [some (.box [mv,.ref 3 S.q.length,.ref 4 0,.ref 5 S.met.length,.ref 6 S.trees.length,.ref 7 0]),some (.arr bG 2 (acc.map Tr.v)),some (.box [.int .i64 k.1.num,.int .i64 k.1.st,.int .i64 k.1.cost,.int .i64 k.1.src,.int .i64 k.1.tree,.bool k.2]),some (.arr ty_hedge_step 5 (S.q.map Stp.v)),some (.mp ktPK (entM S.marks)),some (.mat aN ap 1 (metR S.met)),some (.arr ap 1 (S.trees.map trV1)),some (.mp ktIK (entF S.found))]
section
variable{mw : V}{ty : TypeId}(hm : PureV mw)(S : FSK)(hok : ∀p k d,aget p S.marks = some (k,d) -> k.tree<0 \/ (0 <= k.tree /\ 0 <= k.src /\ (∃c,aget k.tree.toNat S.found = some c /\ ∃e,aget (c.num,c.st) S.marks = some e) /\ ∃e,aget (p.1,k.src.toNat) S.marks = some e))
include hm hok
theorem f_finder_path : ∀(fuel num st : Nat)(l : List Tr)(K : Stp)(D : Bool),fuel <= 1000000000 -> aget (num,st) S.marks = some (K,D) -> pathF S fuel num K = some l ->
    FnH Tryz.prog n_phedge_finder_path [0] [.ptr 0 0,.int .i64 num,.int .i64 st] (FAK (.iface ty mw) S) (.seq 2 (l.reverse.map Tr.v)) (FGK (.iface ty mw) S none) := by
  intro fuel
  induction fuel using Nat.strongRecOn with
  |ind fuel ih =>
  intro num st l K D hfu hkn hpath;have e1 := hm.aF;have e2 := hm.ren;have e3 := hm.bck;have hfitP := λa b => fitsK_pl a b
  have gM : ∀(a b : Nat)(k : Stp)(d : Bool),aget (a,b) S.marks = some (k,d) -> lU (V.strct [.int .i64 a,.int .i64 b]) (entM S.marks) = some (.strct [.int .i64 k.num,.int .i64 k.st,.int .i64 k.cost,.int .i64 k.src,.int .i64 k.tree,.bool d]) := by
    intro a b k d h;have h2 := mget_M (a,b) S.marks;rw[h]at h2;exact h2
  have gF : ∀(t : Nat)(c : Src),aget t S.found = some c -> lU (V.int .i64 t) (entF S.found) = some (.strct [.int .i64 c.num,.int .i64 c.st,.int .i64 c.cost]) := by
    intro t c h;have h2 := mget_F t S.found;rw[h]at h2;exact h2
  have hrev := f_rev_trees;have hll := pathF_len hpath
  suffices h : FnH Tryz.prog n_phedge_finder_path [0] [.ptr 0 0,.int .i64 num,.int .i64 st] (FAK (.iface ty mw) S) (.ref 1 (l.reverse.map Tr.v).length) (FGK (.iface ty mw) S (some (.arr bG 2 (l.reverse.map Tr.v))))from FnH.purR h rfl
  rw[List.length_map,List.length_reverse];have g0 := gM _ _ _ _ hkn;have hk0 := hok _ _ _ hkn;refine FnH.of_image mixed Tryz.func103 i_phedge_finder_path rfl λho hh => ?_
  unfold c_phedge_finder_path;clear ho hh;simp(disch := omega) [-List.reduceReplicate,FAK,FFK,FHK,ktPK,g0,hfitP,e1,e2]
  refine ah (λ(x : Nat×List Tr×(Stp×Bool)) => ⟨[(0,.ptr 0 0),(1,.int .i64 num),(7,.ref 1 x.2.1.length),(8,.ptr 2 0)],FP (.iface ty mw) S x.2.1 x.2.2⟩)
    (λx => x.2.1.length+x.1 <= fuel /\ (∃b,aget (num,b) S.marks = some x.2.2) /\ ∃rest,pathF S x.1 num x.2.2.1 = some rest /\ x.2.1 ++ rest = l) (λx => x.1) [.r 7 bG 2] _ (fuel,[],(K,D)) rfl (by simp[FP,ktPK,e1,e2]) ⟨by simp,⟨st,hkn⟩,l,hpath,rfl⟩ ?_
  clear hpath hk0 g0 hkn;rintro⟨f,acc,k,d⟩ ⟨hf,⟨b0,hkb⟩,rest,hp,hr⟩ N hN;simp only at hf hkb hp hr;cases f with
  |zero => simp[pathF]at hp
  |succ f =>
  rcases hok _ _ _ hkb with ht0|⟨ht1,hs1,⟨B,hB,⟨⟨KB,DB⟩,hKB⟩⟩,⟨⟨K1,D1⟩,hK1⟩⟩
  ·simp only[pathF,ht0,if_true,Option.some.injEq]at hp
   subst hp;rw[List.append_nil]at hr;subst hr;have ht1 : ¬ 0 <= k.tree := by omega
   simp(disch := omega) [-List.reduceReplicate,FP,ht1,e1,e2];refine am [0] 1 [1] (by simp) (by simp) (by simp) (by simp) (hrev acc (by omega)) (by simp) λ_ _ => ?_
   simp(disch := omega) [-List.reduceReplicate,FGK,ktPK,List.range',List.replicate,e1,e2,e3]
  ·have ht0 : ¬ k.tree<0 := by omega
   simp only[pathF,ht0,if_false]at hp;obtain⟨t,ht⟩ : ∃t : Nat,k.tree = t := ⟨k.tree.toNat,by omega⟩
   obtain⟨sr,hsr⟩ : ∃t : Nat,k.src = t := ⟨k.src.toNat,by omega⟩
   rw[ht,hsr,Int.toNat_natCast,Int.toNat_natCast]at hp;rw[ht,Int.toNat_natCast]at hB;simp only[hsr,Int.toNat_natCast]at hK1;have hF := gF t B hB;have hM1 := gM _ _ _ _ hK1;have eB : srcOf S t = B := by unfold srcOf;rw[hB];rfl
   have eK : markOf S (num,sr) = (K1,D1) := by unfold markOf;rw[hK1];rfl
   have eK2 : markOf S (B.num,B.st) = (KB,DB) := by unfold markOf;rw[hKB];rfl
   simp only[eB,eK,eK2]at hp;split at hp
   ·cases hp
   ·rename_i kids hkids
    split at hp
    ·cases hp
    ·rename_i rest' hrest
     simp only[Option.some.injEq]at hp;subst hp;have hrec := ih f (by omega) B.num B.st kids KB DB (by omega) hKB hkids
     have hTv : Tr.v ⟨B.num,kids.reverse⟩ = .strct [.int .i64 B.num,.seq 2 (kids.map Tr.v).reverse] := by rw[Tr.v_eq,<- List.map_reverse];rfl
     have hal : acc.length <= 1000000000 := by omega
     simp(disch := omega) [-List.reduceReplicate,FP,ht,hsr,ktIK,hF,e1,e2]
     refine wboth_K ⟨[(0,.ptr 0 0),(1,.int .i64 num),(7,.ref 1 (acc.length+1)),(8,.ptr 2 0)],
       [some (.box [.iface ty mw,.ref 3 S.q.length,.ref 4 0,.ref 5 S.met.length,.ref 6 S.trees.length,.ref 7 0]),some (.arr bG 2 (acc.map Tr.v ++ [.strct [.int .i64 B.num,.seq 2 (kids.map Tr.v).reverse]])),some (.box [.int .i64 k.num,.int .i64 k.st,.int .i64 k.cost,.int .i64 sr,.int .i64 t,.bool d]),some (.arr ty_hedge_step 5 (S.q.map Stp.v)),some (.mp ktPK (entM S.marks)),some (.mat aN ap 1 (metR S.met)),some (.arr ap 1 (S.trees.map trV1)),some (.mp ktIK (entF S.found))]⟩ (λF hF2 => ?_) ?_
     ·simp only[ktPK,ktIK,ty_hedge_together,ty_hedge_step,aN,ap,bG]at hF2
      repeat' (first
        |with_reducible exact hF2
        |refine QU.mk ?_ ?_
        |refine wcallHD_mkK [0] 1 [0,3,4,5,6,7] (by simp) (by simp[e1,e2]) (by simp) (by simp[FAK,FFK,FHK,ktPK,ktIK,e1,e2]) hrec (by simp[FAK,FFK,FHK,FGK]) ?_
        |(simp(disch := omega) [-List.reduceReplicate,FGK,ktPK,ktIK,hF,List.range',List.replicate,e1,e2,e3]))
     simp(disch := omega) [-List.reduceReplicate,hM1,ktPK,hfitP,e1,e2];exact hN.out _ <| Nx.mk (f,acc ++ [⟨B.num,kids.reverse⟩],(K1,D1)) (by simp[FP,ktPK,hTv,e1,e2]) ⟨by simp;omega,⟨sr,hK1⟩,rest',hrest,by simpa using hr⟩ (by simp only;omega)
end
end Go.Abs.F
end
