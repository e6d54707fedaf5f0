/-
  The least word by which something good is reached, plainly. No condition.
  The least text that an automaton accepts: what is answered. No condition.
  The least text that an automaton accepts. No condition.
  What Least and Accepts answer; the document's example. No condition.
  Pairs of states: what meets them; searches; Within, Common, Not of package dfa. No condition.
-/
import Derived.Test.YtloaikaippankaaGreatDoorKTh1
import Derived.Test.YtloaikaippankaaGreatDoorKTh4
set_option linter.unusedVariables false
set_option linter.unusedSimpArgs false
set_option linter.unusedSectionVars false
section
namespace Go.Aut
def pb:List Nat→List Nat→Prop
 | a::u,b::v=>a < b∨(a=b∧pb u v)
 | _,_=>False
def wlt (u v:List Nat):Prop:=u.length < v.length∨(u.length=v.length∧pb u v)
theorem uz:∀ u:List Nat,¬pb u u
 | [],h=>h
 | a::u,h=>by
   rcases h with h | ⟨_,h⟩
   · omega
   · exact uz u h
theorem wU:∀ {u v w:List Nat},pb u v→pb v w→pb u w
 | a::u,b::v,c::w,h,h'=>by
   simp only [pb] at h h' ⊢
   rcases h with h | ⟨h,h2⟩
   · rcases h' with h' | ⟨h',_⟩
     · left; omega
     · left; omega
   · rcases h' with h' | ⟨h',h3⟩
     · left; omega
     · right; exact ⟨by omega,wU h2 h3⟩
 | [],_,_,h,_=>by simp [pb] at h
 | _::_,[],_,h,_=>by simp [pb] at h
 | _::_,_::_,[],_,h=>by simp [pb] at h
theorem AP:∀ {u v:List Nat} (a b:Nat),u.length=v.length→pb u v→pb (u++[a]) (v++[b])
 | x::u,y::v,a,b,hl,h=>by
   simp only [List.length_cons,Nat.add_right_cancel_iff] at hl
   simp only [pb,List.cons_append] at h ⊢
   rcases h with h | ⟨h,h2⟩
   · exact .inl h
   · exact .inr ⟨h,AP a b hl h2⟩
 | [],_,_,_,_,h=>by simp [pb] at h
 | _::_,[],_,_,hl,_=>by simp at hl
theorem AQ:∀ (u:List Nat) {a b:Nat},a < b→pb (u++[a]) (u++[b])
 | [],_,_,h=>.inl h
 | x::u,_,_,h=>.inr ⟨rfl,AQ u h⟩
theorem vR (u:List Nat):¬wlt u u:=fun h=>by
 rcases h with h | ⟨_,h⟩
 · omega
 · exact uz u h
theorem ov {u v w:List Nat} (h:wlt u v) (h':wlt v w):wlt u w:=by
 rcases h with h | ⟨h,h2⟩
 · rcases h' with h' | ⟨h',_⟩
   · left; omega
   · left; omega
 · rcases h' with h' | ⟨h',h3⟩
   · left; omega
   · right; exact ⟨by omega,wU h2 h3⟩
theorem Dw {u v:List Nat} (a b:Nat) (h:wlt u v):wlt (u++[a]) (v++[b]):=by
 rcases h with h | ⟨h,h2⟩
 · left; simp; omega
 · right; exact ⟨by simp [h],AP a b h h2⟩
theorem vQ (u:List Nat) {a b:Nat} (h:a < b):wlt (u++[a]) (u++[b]):=.inr ⟨by simp,AQ u h⟩
def wle (u v:List Nat):Prop:=u=v∨wlt u v
theorem Fo {u v w:List Nat} (h:wle u v) (h':wlt v w):wlt u w:=by
 rcases h with rfl | h
 · exact h'
 · exact ov h h'
theorem sV {u v w:List Nat} (h:wle u v) (h':wle v w):wle u w:=by
 rcases h' with rfl | h'
 · exact h
 · exact .inr (Fo h h')
theorem Kz {u v:List Nat} (a:Nat) (h:wle u v):wle (u++[a]) (v++[a]):=by
 rcases h with rfl | h
 · exact .inl rfl
 · exact .inr (Dw a a h)
section
variable {K:Type} [DecidableEq K]
def qA (f:Nat→K) (w:List Nat):Nat→Nat→List K→List (List Nat)→List K × List (List Nat)
 | 0,_,l,ws=>(l,ws)
 | m + 1,c,l,ws=>if (pos eqB (f c) l).isSome=true then qA f w m (c + 1) l ws else qA f w m (c + 1) (l++[f c]) (ws++[w++[c]])
def dB (step:K→Nat→K) (good:K→Bool):Nat→Nat→List K→List (List Nat)→Option (Option (List Nat))
 | 0,_,_,_=>none
 | f + 1,i,l,ws=>match l[i]? with
   | none=>some none
   | some q=>if good q=true then some (some ((ws[i]?).getD [])) else dB step good f (i + 1) (qA (step q) ((ws[i]?).getD []) 95 0 l ws).1 (qA (step q) ((ws[i]?).getD []) 95 0 l ws).2
structure LInv (step:K→Nat→K) (start:K) (D:K→Prop) (i c:Nat) (l:List K) (ws:List (List Nat)):Prop where
 len:ws.length=l.length
 dom:∀ x∈l,D x
 first:l[0]?=some start∧ws[0]?=some []
 run:∀ (k:Nat) (q:K) (w:List Nat),l[k]?=some q→ws[k]?=some w→w.foldl step start=q∧∀ d∈w,d < 95
 nodup:l.Nodup
 sorted:∀ (j k:Nat) (u v:List Nat),j < k→ws[j]?=some u→ws[k]?=some v→wlt u v
 bound:∀ (k:Nat) (u w:List Nat),ws[k]?=some u→ws[i]?=some w→wlt u (w++[c])
 done:∀ (k d:Nat) (q:K) (w:List Nat),(k < i∨(k=i∧d < c))→d < 95→l[k]?=some q→ws[k]?=some w→∃ (j:Nat) (u:List Nat),l[j]?=some (step q d)∧ws[j]?=some u∧wle u (w++[d])
variable {step:K→Nat→K} {start:K} {D:K→Prop}
theorem LInv.one {c i:Nat} {l:List K} {ws:List (List Nat)} (h:LInv step start D i c l ws) (hD:∀ q c,D q→c < 95→D (step q c)) (hc:c < 95) {q:K} {w:List Nat} (hq:l[i]?=some q) (hw:ws[i]?=some w):
 LInv step start D i (c + 1) (if (pos eqB (step q c) l).isSome=true then l else l++[step q c]) (if (pos eqB (step q c) l).isSome=true then ws else ws++[w++[c]]):=by
 have hil:=(List.getElem?_eq_some_iff.1 hq).1
 cases hp:pos eqB (step q c) l with
 | some j=>
   simp only [Option.isSome_some,if_true]
   obtain ⟨x,hx,hxe⟩:=mT hp
   have:=ll.1 hxe
   subst this
   obtain ⟨u,hu⟩:∃ u,ws[j]?=some u:=⟨_,List.getElem?_eq_getElem (by rw [h.len]; exact (List.getElem?_eq_some_iff.1 hx).1)⟩
   refine ⟨h.len,h.dom,h.first,h.run,h.nodup,h.sorted,fun k u' w' hk hw'=>?_,fun k d q' w' hkd hd hq' hw'=>?_⟩
   · exact ov (h.bound k u' w' hk hw') (vQ _ (by omega))
   · rcases hkd with hkd | ⟨rfl,hkd⟩
     · exact h.done k d q' w' (.inl hkd) hd hq' hw'
     · rcases Nat.lt_or_ge d c with hdc | hdc
       · exact h.done k d q' w' (.inr ⟨rfl,hdc⟩) hd hq' hw'
       · have:d=c:=by omega
         subst this
         rw [hq] at hq'; cases hq'
         rw [hw] at hw'; cases hw'
         exact ⟨j,u,hx,hu,.inr (h.bound j u w hu hw)⟩
 | none=>
   simp only [Option.isSome_none,Bool.false_eq_true,if_false]
   have hnm:step q c ∉ l:=fun hm=>by have:=rJ hp _ hm; simp [eqB] at this
   have app:∀ {α:Type} {l:List α} {x y:α} {k:Nat},(l++[x])[k]?=some y→(k < l.length∧l[k]?=some y)∨(k=l.length∧y=x):=fun {α l x y k} h=>by
    rcases Nat.lt_or_ge k l.length with hk | hk
    · rw [List.getElem?_append_left hk] at h; exact .inl ⟨hk,h⟩
    · have hkl:=(List.getElem?_eq_some_iff.1 h).1
      simp at hkl
      have:k=l.length:=by omega
      subst this
      simp at h
      exact .inr ⟨rfl,h.symm⟩
   have ext:∀ {α:Type} {l:List α} {x y:α} {k:Nat},l[k]?=some y→(l++[x])[k]?=some y:=fun {α l x y k} h=>by
    rw [List.getElem?_append_left (List.getElem?_eq_some_iff.1 h).1]; exact h
   refine ⟨by simp [h.len],fun x hx=>?_,⟨ext h.first.1,ext h.first.2⟩,fun k q' w' hq' hw'=>?_,?_,fun j k u v hjk hu hv=>?_,fun k u' w' hk hw'=>?_,fun k d q' w' hkd hd hq' hw'=>?_⟩
   · rcases List.mem_append.1 hx with hx | hx
     · exact h.dom x hx
     · simp at hx; subst hx; exact hD _ _ (h.dom q (List.mem_of_getElem? hq)) hc
   · rcases app hq' with ⟨h1,h2⟩ | ⟨h1,h2⟩
     · rcases app hw' with ⟨h3,h4⟩ | ⟨h3,h4⟩
       · exact h.run k q' w' h2 h4
       · have:=h.len; omega
     · rcases app hw' with ⟨h3,h4⟩ | ⟨h3,h4⟩
       · have:=h.len; omega
       · subst h2 h4
         obtain ⟨g1,g2⟩:=h.run i q w hq hw
         refine ⟨by rw [List.foldl_append,g1]; rfl,fun d hd=>?_⟩
         rcases List.mem_append.1 hd with hd | hd
         · exact g2 d hd
         · simp at hd; omega
   · rw [List.nodup_append]
     exact ⟨h.nodup,by simp,fun a ha b hb=>by simp at hb; subst hb; exact fun e=>hnm (e ▸ ha)⟩
   · rcases app hv with ⟨h3,h4⟩ | ⟨h3,h4⟩
     · rcases app hu with ⟨h1,h2⟩ | ⟨h1,h2⟩
       · exact h.sorted j k u v hjk h2 h4
       · omega
     · rcases app hu with ⟨h1,h2⟩ | ⟨h1,h2⟩
       · subst h4; exact h.bound j u w h2 hw
       · omega
   · rcases app hw' with ⟨h1,h2⟩ | ⟨h1,h2⟩
     · rw [hw] at h2; cases h2
       rcases app hk with ⟨h3,h4⟩ | ⟨h3,h4⟩
       · exact ov (h.bound k u' w h4 hw) (vQ _ (by omega))
       · subst h4; exact vQ _ (by omega)
     · have:=h.len; omega
   · have hkl:k < l.length:=by rcases hkd with hkd | ⟨rfl,_⟩<;>omega
     rcases app hq' with ⟨_,h2⟩ | ⟨h1,_⟩
     · rcases app hw' with ⟨_,h4⟩ | ⟨h3,_⟩
       · by_cases hnew:k=i∧d=c
         · obtain ⟨rfl,rfl⟩:=hnew
           rw [hq] at h2; cases h2
           rw [hw] at h4; cases h4
           exact ⟨l.length,w++[d],by simp,by rw [←h.len]; simp,.inl rfl⟩
         · obtain ⟨j,u,g1,g2,g3⟩:=h.done k d q' w' (by omega) hd h2 h4
           exact ⟨j,u,ext g1,ext g2,g3⟩
       · have:=h.len; omega
     · omega
theorem rU (hD:∀ q c,D q→c < 95→D (step q c)) {i:Nat} {q:K} {w:List Nat}:∀ (m c:Nat) (l:List K) (ws:List (List Nat)),LInv step start D i c l ws→c + m≤95→l[i]?=some q→ws[i]?=some w→
 LInv step start D i (c + m) (qA (step q) w m c l ws).1 (qA (step q) w m c l ws).2∧∃ t,(qA (step q) w m c l ws).1=l++t
 | 0,c,l,ws,h,_,_,_=>⟨h,[],by simp [qA]⟩
 | m + 1,c,l,ws,h,hm,hq,hw=>by
   have h1:=h.one hD (by omega) hq hw
   simp only [qA]
   have e:c + (m + 1)=c + 1 + m:=by omega
   rw [e]
   split
   · rename_i hp
     rw [if_pos hp,if_pos hp] at h1
     exact rU hD m (c + 1) l ws h1 (by omega) hq hw
   · rename_i hp
     rw [if_neg hp,if_neg hp] at h1
     obtain ⟨g1,t,g2⟩:=rU hD m (c + 1) _ _ h1 (by omega) (by rw [List.getElem?_append_left (List.getElem?_eq_some_iff.1 hq).1]; exact hq) (by rw [List.getElem?_append_left (List.getElem?_eq_some_iff.1 hw).1]; exact hw)
     exact ⟨g1,[step q c]++t,by rw [g2]; simp⟩
theorem LInv.next {i:Nat} {l:List K} {ws:List (List Nat)} (h:LInv step start D i 95 l ws) (hi:i < l.length):LInv step start D (i + 1) 0 l ws:=by
 obtain ⟨w,hw⟩:∃ w,ws[i]?=some w:=⟨_,List.getElem?_eq_getElem (by rw [h.len]; exact hi)⟩
 refine ⟨h.len,h.dom,h.first,h.run,h.nodup,h.sorted,fun k u v hk hv=>?_,fun k d q' w' hkd hd hq' hw'=>?_⟩
 · exact ov (h.bound k u w hk hw) (Dw _ _ (h.sorted i (i + 1) w v (by omega) hw hv))
 · refine h.done k d q' w' ?_ hd hq' hw'
   rcases hkd with hkd | ⟨rfl,hkd⟩
   · rcases Nat.lt_or_ge k i with h1 | h1
     · exact .inl h1
     · exact .inr ⟨by omega,hd⟩
   · omega
def Ia (step:K→Nat→K) (start:K) (good:K→Bool):Option (List Nat)→Prop
 | none=>∀ v:List Nat,(∀ c∈v,c < 95)→good (v.foldl step start)=false
 | some w=>(∀ c∈w,c < 95)∧good (w.foldl step start)=true∧∀ v:List Nat,(∀ c∈v,c < 95)→good (v.foldl step start)=true→¬wlt v w
theorem td {i:Nat} {l:List K} {ws:List (List Nat)} (h:LInv step start D i 0 l ws) (B:List Nat→Prop) (hB:∀ (k:Nat) (w v:List Nat),l.length≤k∨i≤k→ws[k]?=some w→wle w v→¬B v) (hpre:∀ v c,B (v++[c])→B v):
 ∀ (n:Nat) (v:List Nat),v.length=n→(∀ c∈v,c < 95)→B v→∃ (k:Nat) (w:List Nat),l[k]?=some (v.foldl step start)∧ws[k]?=some w∧wle w v
 | 0,v,hn,_,hb=>by
   have:v=[]:=List.eq_nil_of_length_eq_zero hn
   subst this
   exact ⟨0,[],h.first.1,h.first.2,.inl rfl⟩
 | n + 1,v,hn,hv,hb=>by
   obtain ⟨u,d,rfl⟩:∃ u d,v=u++[d]:=⟨v.dropLast,v.getLast (by intro e; rw [e] at hn; simp at hn),(List.dropLast_concat_getLast _).symm⟩
   obtain ⟨k,w,h1,h2,h3⟩:=td h B hB hpre n u (by simpa using hn) (fun c hc=>hv c (by simp [hc])) (hpre u d hb)
   have hki:k < i:=by
    apply Classical.byContradiction
    intro hk
    exact hB k w u (.inr (by omega)) h2 h3 (hpre u d hb)
   obtain ⟨j,x,g1,g2,g3⟩:=h.done k d _ w (.inl hki) (hv d (by simp)) h1 h2
   exact ⟨j,x,by rw [List.foldl_append]; exact g1,g2,sV g3 (Kz d h3)⟩
theorem rX (hD:∀ q c,D q→c < 95→D (step q c)) {good:K→Bool}:∀ (f i:Nat) (l:List K) (ws:List (List Nat)) (r:Option (List Nat)),LInv step start D i 0 l ws→i≤l.length→(∀ k < i,∀ q,l[k]?=some q→good q=false)→dB step good f i l ws=some r→Ia step start good r
 | 0,_,_,_,_,_,_,_,h=>by simp [dB] at h
 | f + 1,i,l,ws,r,hI,hil,hg,h=>by
   simp only [dB] at h
   cases hq:l[i]? with
   | none=>
     simp only [hq,Option.some.injEq] at h
     subst h
     have hi:i=l.length:=by have:=List.getElem?_eq_none_iff.1 hq; omega
     intro v hv
     obtain ⟨k,w,h1,h2,_⟩:=td hI (fun _=>True) (fun k w v hk hw _=>by have:=(List.getElem?_eq_some_iff.1 hw).1; have:=hI.len; omega) (fun _ _ h=>h) v.length v rfl hv trivial
     exact hg k (by have:=(List.getElem?_eq_some_iff.1 h1).1; omega) _ h1
   | some q=>
     have hii:=(List.getElem?_eq_some_iff.1 hq).1
     obtain ⟨w,hw⟩:∃ w,ws[i]?=some w:=⟨_,List.getElem?_eq_getElem (by rw [hI.len]; exact hii)⟩
     simp only [hq,hw,Option.getD_some] at h
     split at h
     · rename_i hgood
       simp only [Option.some.injEq] at h
       subst h
       obtain ⟨g1,g2⟩:=hI.run i q w hq hw
       refine ⟨g2,by rw [g1]; exact hgood,fun v hv hgv hlt=>?_⟩
       have hmono:∀ k u,i≤k→ws[k]?=some u→wle w u:=fun k u hk hu=>by
        rcases Nat.lt_or_ge i k with h1 | h1
        · exact .inr (hI.sorted i k w u h1 hw hu)
        · have:k=i:=by omega
          subst this
          rw [hw] at hu; cases hu; exact .inl rfl
       obtain ⟨k,u,h1,h2,h3⟩:=td hI (fun v=>wlt v w) (fun k u v hk hu huv hlt=>by
        have hki:i≤k:=by rcases hk with hk | hk<;>omega
        exact vR _ (Fo (sV (hmono k u hki hu) huv) hlt))
        (fun v c h=>by
          rcases h with h | ⟨h,h2⟩
          · left; simp at h; omega
          · left; simp at h; omega) v.length v rfl hv hlt
       have hki:k < i:=by
        apply Classical.byContradiction
        intro hk
        exact vR _ (Fo (sV (hmono k u (by omega) h2) h3) hlt)
       have:=hg k hki _ h1
       rw [hgv] at this
       cases this
     · rename_i hgood
       obtain ⟨g1,t,g2⟩:=rU hD 95 0 l ws hI (by omega) hq hw
       have hlen:i < (qA (step q) w 95 0 l ws).1.length:=by rw [g2]; simp; omega
       refine rX hD f (i + 1) _ _ r (g1.next hlen) (by omega) (fun k hk q' hq'=>?_) h
       rw [g2,List.getElem?_append_left (by omega)] at hq'
       rcases Nat.lt_or_ge k i with h1 | h1
       · exact hg k h1 q' hq'
       · have:k=i:=by omega
         subst this
         rw [hq] at hq'; cases hq'
         simpa using hgood
theorem LInv.begin (h0:D start):LInv step start D 0 0 [start] [[]]:=by
 have one:∀ {α:Type} {x y:α} {k:Nat},[x][k]?=some y→k=0∧y=x:=fun {α x y k} h=>by
  cases k with
  | zero=>simp at h; exact ⟨rfl,h.symm⟩
  | succ k=>simp at h
 refine ⟨rfl,by simpa using h0,⟨rfl,rfl⟩,fun k q w hq hw=>?_,by simp,fun j k u v hjk hu hv=>?_,fun k u w hu hw=>?_,fun k d q w hkd=>by omega⟩
 · obtain ⟨_,rfl⟩:=one hq
   obtain ⟨_,rfl⟩:=one hw
   exact ⟨rfl,by simp⟩
 · have:=(one hv).1; omega
 · obtain ⟨_,rfl⟩:=one hu
   obtain ⟨_,rfl⟩:=one hw
   left; simp
theorem rY (hD:∀ q c,D q→c < 95→D (step q c)) {N:Nat} (hN:∀ l:List K,(∀ x∈l,D x)→l.Nodup→l.length≤N) {good:K→Bool}:∀ (f i:Nat) (l:List K) (ws:List (List Nat)),LInv step start D i 0 l ws→i≤l.length→N + 1≤f + i→∃ r,dB step good f i l ws=some r
 | 0,i,l,ws,hI,hil,hf=>by have:=hN l hI.dom hI.nodup; omega
 | f + 1,i,l,ws,hI,hil,hf=>by
   simp only [dB]
   cases hq:l[i]? with
   | none=>exact ⟨_,rfl⟩
   | some q=>
     have hii:=(List.getElem?_eq_some_iff.1 hq).1
     obtain ⟨w,hw⟩:∃ w,ws[i]?=some w:=⟨_,List.getElem?_eq_getElem (by rw [hI.len]; exact hii)⟩
     simp only [hw,Option.getD_some]
     split
     · exact ⟨_,rfl⟩
     · obtain ⟨g1,t,g2⟩:=rU hD 95 0 l ws hI (by omega) hq hw
       have hlen:i < (qA (step q) w 95 0 l ws).1.length:=by rw [g2]; simp; omega
       exact rY hD hN f (i + 1) _ _ (g1.next hlen) (by omega) (by omega)
end
end Go.Aut
end
section
set_option maxHeartbeats 1000000
set_option maxRecDepth 100000
namespace Go.Abs
open Go.Proofs Go.Aut
attribute [-simp] getElem?_pos Option.not_isSome List.map_map
def mO (l:List V) (i:Nat):List V:=(l.reverse.take i)++((l.drop i).take (l.length - 2 * i))++l.reverse.drop (l.length - i)
theorem Aq {l:List V} {i:Nat} (h:2 * i≤l.length):(mO l i).length=l.length:=by simp [mO]; omega
theorem FP (l:List V):mO l 0=l:=by simp [mO]
theorem mN {l:List V} {i:Nat} (h:2 * i≤l.length) (k:Nat):(mO l i)[k]?=if k < i∨l.length - i≤k then l.reverse[k]? else l[k]?:=by
 unfold mO
 rcases Nat.lt_or_ge k i with h1 | h1
 · rw [List.append_assoc,List.getElem?_append_left (by simp; omega),if_pos (.inl h1),List.getElem?_take,if_pos h1]
 · rcases Nat.lt_or_ge k (l.length - i) with h2 | h2
   · rw [List.getElem?_append_left (by simp; omega),List.getElem?_append_right (by simp; omega),if_neg (by omega),List.getElem?_take,List.getElem?_drop]
     have e:k - (l.reverse.take i).length=k - i:=by simp; omega
     rw [e,if_pos (by omega)]
     congr 1
     omega
   · rw [List.getElem?_append_right (by simp; omega),if_pos (.inr h2),List.getElem?_drop]
     congr 1
     simp
     omega
theorem FQ {l:List V} {i:Nat} (h:2 * i + 1 < l.length) {a b:V} (ha:l[i]?=some a) (hb:l[l.length - 1 - i]?=some b):((mO l i).set i b).set (l.length - 1 - i) a=mO l (i + 1):=by
 refine List.ext_getElem? fun k=>?_
 have hl:=Aq (l:=l) (i:=i) (by omega)
 rw [mN (by omega)]
 by_cases h1:l.length - 1 - i=k
 · subst h1
   rw [List.getElem?_set_self (by simp [hl]; omega),if_pos (.inr (by omega)),List.getElem?_reverse (by omega)]
   rw [show l.length - 1 - (l.length - 1 - i)=i by omega,ha]
 · rw [List.getElem?_set_ne h1]
   by_cases h2:i=k
   · subst h2
     rw [List.getElem?_set_self (by rw [hl]; omega),if_pos (.inl (by omega)),List.getElem?_reverse (by omega),hb]
   · rw [List.getElem?_set_ne h2,mN (by omega)]
     by_cases h3:k < i∨l.length - i≤k
     · rw [if_pos h3,if_pos (by omega)]
     · rw [if_neg h3,if_neg (by omega)]
theorem FSk {l:List V} {i:Nat} (h:2 * i≤l.length) (h2:l.length≤2 * i + 1):mO l i=l.reverse:=by
 refine List.ext_getElem? fun k=>?_
 rw [mN h]
 split
 · rfl
 · rename_i hk
   rw [List.getElem?_reverse (by omega)]
   congr 1
   omega
theorem tL (bs:List Nat) (hl:bs.length≤1000000):FnH Tryz.prog ik [0] [.ref 0 bs.length] [some (.arr dj 1 (bs.map u8V))] (.tup []) [some (.arr dj 1 (bs.reverse.map u8V))]:=by
 refine FnH.of_image mixed iu ir rfl fun ho hh=>?_
 unfold dh
 clear ho hh
 obtain ⟨l,hld⟩:∃ l,l=bs.map u8V:=⟨_,rfl⟩
 have hll:l.length=bs.length:=by simp [hld]
 have hrev:bs.reverse.map u8V=l.reverse:=by rw [hld,List.map_reverse]
 have hget:∀ k,k < l.length→∃ x:Nat,l[k]?=some (.int .u8 (x:Int)):=fun k hk=>by
  obtain ⟨x,hx⟩:=ap (l:=bs) (k:=k) (by omega)
  exact ⟨x,by rw [hld,List.getElem?_map,hx]; rfl⟩
 rw [hrev,←hld,←hll]
 rw [←hll] at hl
 clear hrev hld hll
 simp (disch:=omega) [-List.reduceReplicate]
 refine ak (fun i:Nat=>⟨[(0,.ref 0 l.length),(2,nV i),(3,.int .i64 ((l.length:Int) - 1 - i))],[some (.arr dj 1 (mO l i))]⟩) (fun i=>2 * i≤l.length) (fun i=>l.length - i) [] _ 0 rfl (by simp [FP]) (by simp) ?_
 intro i hi N hN
 have hlen:=Aq hi
 rcases Nat.lt_or_ge (2 * i + 1) l.length with hlt | hge
 · obtain ⟨a,ha⟩:=hget i (by omega)
   obtain ⟨b,hb⟩:=hget (l.length - 1 - i) (by omega)
   have h1:=mN hi i
   have h2:=mN hi (l.length - 1 - i)
   rw [if_neg (by omega),ha] at h1
   rw [if_neg (by omega),hb] at h2
   have hst:=FQ hlt ha hb
   have hj:((l.length:Int) - 1 - i).toNat=l.length - 1 - i:=by omega
   have h3:((mO l i).set i (.int .u8 (b:Int)))[l.length - 1 - i]?=some (.int .u8 (b:Int)):=by rw [List.getElem?_set_ne (by omega)]; exact h2
   simp (disch:=omega) [-List.reduceReplicate,hlen,hj,h1,h2,h3,hst]
   exact hN.out _<|Nx.mk (i + 1) (by simp; omega) (by omega) (by omega)
 · have:=FSk hi (by omega)
   simp (disch:=omega) [-List.reduceReplicate,this]
def Ax (fr by':List Nat):Nat→Nat→List Nat
 | 0,_=>[]
 | f + 1,i=>if i=0 then [] else aH by' i::Ax fr by' f (aH fr i)
structure CameBy (fr by':List Nat) (ws:List (List Nat)):Prop where
 len1:fr.length=ws.length
 len2:by'.length=ws.length
 zero:∀ w,ws[0]?=some w→w=[]
 back:∀ (i:Nat) (w:List Nat),0 < i→ws[i]?=some w→∃ (j c:Nat) (u:List Nat),fr[i]?=some j∧by'[i]?=some (32 + c)∧j < i∧ws[j]?=some u∧w=u++[c]∧c < 95
theorem DU {fr by':List Nat} {ws:List (List Nat)} (h:CameBy fr by' ws):∀ (f i:Nat) (w:List Nat),i < f→ws[i]?=some w→Ax fr by' f i=w.reverse.map (32 + ·)
 | 0,_,_,hf,_=>by omega
 | f + 1,i,w,hf,hw=>by
   simp only [Ax]
   by_cases hi:i=0
   · subst hi
     rw [if_pos rfl,h.zero w hw]; rfl
   · rw [if_neg hi]
     obtain ⟨j,c,u,h1,h2,h3,h4,rfl,_⟩:=h.back i w (by omega) hw
     rw [show aH by' i=32 + c by simp [aH,h2],show aH fr i=j by simp [aH,h1],DU h f j u (by omega) h4]
     simp
def aT (w:List Nat):List UInt8:=w.map fun c=>UInt8.ofNat (32 + c)
theorem rL:∀ (w:List Nat),(∀ c∈w,c < 95)→cz ((w.map (32 + ·)).map u8V)=some (aT w)
 | [],_=>rfl
 | c::w,h=>by
   have ih:=rL w fun c hc=>h c (by simp [hc])
   have hc:=h c (by simp)
   simp only [List.map_cons,cz,ih,u8V,Option.map_some,Int.toNat_natCast]
   rfl
theorem GQ (fr by':List Nat) (ws:List (List Nat)) (h:CameBy fr by' ws) (hl:ws.length≤1000000) (i:Nat) (w:List Nat) (hw:ws[i]?=some w) (hw95:∀ c∈w,c < 95) (hwl:w.length≤i):Fn Tryz.prog F1 [bL fr,.seq 1 (by'.map u8V),nV i] (.str (aT w)):=by
 refine Fn.of_imageE mixed Gn Gg rfl fun ho=>?_
 unfold x7
 simp only [oks,ok,and_true] at ho
 clear ho
 have hil:=(List.getElem?_eq_some_iff.1 hw).1
 have h1:=h.len1
 have h2:=h.len2
 obtain ⟨R,hR⟩:∃ R,R=w.reverse.map (32 + ·):=⟨_,rfl⟩
 have hRl:R.length=w.length:=by simp [hR]
 have hpn:Ax fr by' (i + 1) i=R:=by rw [hR]; exact DU h (i + 1) i w (by omega) hw
 simp (disch:=omega) [-List.reduceReplicate]
 refine ak (fun (x:Nat × Nat × List Nat)=>⟨[(0,bL fr),(1,.seq 1 (by'.map u8V)),(2,nV x.2.1),(7,.ref 0 x.2.2.length)],[some (.arr dj 1 (x.2.2.map u8V))]⟩)
  (fun x=>x.2.1 < x.1∧x.2.1≤i∧x.2.2.length + x.2.1≤i∧x.2.2++Ax fr by' x.1 x.2.1=R) (fun x=>x.1) [.r 7 dj 1] _ (i + 1,i,[]) rfl (by simp) ⟨by simp,by simp,by simp,by simpa using hpn⟩ ?_
 rintro ⟨f,k,out⟩ ⟨hf,hk,hol,hi⟩ N hN
 simp only at hf hk hol hi
 cases f with
 | zero=>omega
 | succ f=>
 simp only [Ax] at hi
 obtain ⟨u,hu⟩:=ap (l:=ws) (k:=k) (by omega)
 by_cases hk0:k=0
 · subst hk0
   rw [if_pos rfl,List.append_nil] at hi
   subst hi
   have hrv:=tL out (by omega)
   have hob:cz ((out.map u8V).reverse)=some (aT w):=by
    rw [hR,List.map_reverse,List.map_reverse,List.reverse_reverse]
    exact rL w hw95
   simp (disch:=omega) [-List.reduceReplicate]
   refine ah [0] 1 [0] (by simp) (by simp) (by simp) (by simp) hrv (by simp) fun _ _=>?_
   simp (disch:=omega) [-List.reduceReplicate,hob]
 · rw [if_neg hk0] at hi
   obtain ⟨j,c,u',g1,g2,g3,g4,g5,g6⟩:=h.back k u (by omega) hu
   rw [show aH by' k=32 + c by simp [aH,g2],show aH fr k=j by simp [aH,g1]] at hi
   replace hi:=hid hi
   simp (disch:=omega) [-List.reduceReplicate,g1,g2]
   exact hN.out _<|Nx.mk (f,j,out++[32 + c]) (by simp) ⟨by simp only; omega,by simp only; omega,by simp; omega,by simpa using hi.out⟩ (by simp only; omega)
def LK (e sz:Nat) (d:Option Nat) (K:St→Prop) (σ:St) (vs us:List V):Prop:=bn sz us=true∧us.length≤16777216∧K (St.put ⟨(σ.kill (ai vs)).r,(σ.kill (ai vs)).h++[some (Ob.arr e sz us)]⟩ d (.ref (σ.kill (ai vs)).h.length us.length))
def Rf (e sz:Nat) (d:Option Nat) (K:St→Prop) (σ:St) (vs:List V):Prop:=oM (purs σ.h vs) (LK e sz d K σ vs)
theorem I9 {e sz:Nat} {d:Option Nat} {K:St→Prop} {σ:St} {vs us:List V}:LK e sz d K σ vs us=(bn sz us=true∧us.length≤16777216∧K (St.put ⟨(σ.kill (ai vs)).r,(σ.kill (ai vs)).h++[some (Ob.arr e sz us)]⟩ d (.ref (σ.kill (ai vs)).h.length us.length))):=propext Iff.rfl
theorem LJ {e sz:Nat} {d:Option Nat} {K:St→Prop} {σ:St} {vs:List V}:Rf e sz d K σ vs=oM (purs σ.h vs) (LK e sz d K σ vs):=propext Iff.rfl
theorem a_ltr {Φ:Ctr} {d:Option Nat} {K:St→Prop} {σ:St} {e sz:Nat} {xs:List AO}:af Φ d (.ltr e sz xs) K σ=oM (σ.evs xs) (Rf e sz d K σ):=by
 simp only [af,oM]
 cases σ.evs xs with
 | none=>rfl
 | some vs=>
   simp only [Rf,oM]
   cases purs σ.h vs<;>rfl
attribute [simp] I9 LJ a_ltr
def oV:Option (List Nat)→V
 | some w=>.tup [.str (aT w),.bool true]
 | none=>.tup [.str [],.bool false]
theorem CameBy.add {fr by':List Nat} {ws:List (List Nat)} (h:CameBy fr by' ws) {i c:Nat} {w:List Nat} (hw:ws[i]?=some w) (hc:c < 95):CameBy (fr++[i]) (by'++[32 + c]) (ws++[w++[c]]):=by
 have hil:=(List.getElem?_eq_some_iff.1 hw).1
 have h1:=h.len1
 have h2:=h.len2
 refine ⟨by simp [h1],by simp [h2],fun u hu=>?_,fun k u hk hu=>?_⟩
 · rw [List.getElem?_append_left (by omega)] at hu
   exact h.zero u hu
 · rcases Nat.lt_or_ge k ws.length with hkl | hkl
   · rw [List.getElem?_append_left hkl] at hu
     obtain ⟨j,d,v,g1,g2,g3,g4,g5,g6⟩:=h.back k u hk hu
     exact ⟨j,d,v,by rw [List.getElem?_append_left (by omega)]; exact g1,by rw [List.getElem?_append_left (by omega)]; exact g2,g3,by rw [List.getElem?_append_left (by omega)]; exact g4,g5,g6⟩
   · have hkk:=(List.getElem?_eq_some_iff.1 hu).1
     simp at hkk
     have:k=ws.length:=by omega
     subst this
     rw [List.getElem?_append_right (Nat.le_refl _),Nat.sub_self] at hu
     simp only [List.getElem?_cons_zero,Option.some.injEq] at hu
     refine ⟨i,c,w,by rw [←h1,List.getElem?_append_right (Nat.le_refl _),Nat.sub_self]; rfl,by rw [←h2,List.getElem?_append_right (Nat.le_refl _),Nat.sub_self]; rfl,hil,by rw [List.getElem?_append_left hil]; exact hw,hu.symm,hc⟩
def Qk (ws:List (List Nat)):Prop:=∀ (k:Nat) (w:List Nat),ws[k]?=some w→w.length≤k
def sgn (c:UInt8):Bool:=decide (32≤c.toNat) && decide (c.toNat≤126)
end Go.Abs
end
section
set_option maxHeartbeats 4000000
set_option maxRecDepth 100000
namespace Go.Abs
open Go.Proofs Go.Aut
attribute [-simp] getElem?_pos Option.not_isSome List.map_map
theorem OX {n m i j:Nat} (hi:i < n) (hj:j < m):i * m + j < n * m:=by
 have:(i + 1) * m≤n * m:=Nat.mul_le_mul_right m hi
 rw [Nat.succ_mul] at this
 omega
theorem Eg {m i j:Nat} (hj:j < m):(i * m + j) / m=i∧(i * m + j) % m=j:=by
 rw [Nat.mul_comm i m,Nat.mul_add_div (by omega),Nat.div_eq_of_lt hj,Nat.mul_add_mod,Nat.mod_eq_of_lt hj]
 exact ⟨rfl,rfl⟩
def ktP:KT:=⟨true,[.i .i64,.i .i64]⟩
def pV (p:Nat × Nat):V:=.strct [nV p.1,nV p.2]
theorem GW (a b:Nat × Nat):eqK (pV a) (pV b)=decide (a=b):=by
 have h1:((a.1:Int)=b.1)↔a.1=b.1:=by omega
 have h2:((a.2:Int)=b.2)↔a.2=b.2:=by omega
 simp [eqK,jy,nV,cl,eqC,pV,h1,h2,Prod.ext_iff]
theorem qX (q:Nat × Nat):FnH Tryz.prog ef [0] [.ptr 0 0,pV q] (k7 ktP 2) (nV 0) (c7 ktP bA 2 pV [q]):=by
 refine FnH.of_image mixed ej eh rfl fun ho hh=>?_
 unfold cC
 clear ho hh
 simp (disch:=omega) [-List.reduceReplicate,k7,c7,ktP,nV,pV,gb,im,cn,aY,kOf,az,aR,dG]
theorem xD (l:List (Nat × Nat)) (q:Nat × Nat) (hl:l.length≤1000000):FnH Tryz.prog ef [0] [.ptr 0 0,pV q] (c7 ktP bA 2 pV l) (nV (fM eqB l q)) (c7 ktP bA 2 pV (bF eqB l q)):=by
 refine FnH.of_image mixed ej eh rfl fun ho hh=>?_
 unfold cC
 clear ho hh
 have hm:=kn GW q l 0
 cases hp:pos eqB q l with
 | some i=>
   rw [hp] at hm
   replace hm:gb (.strct [.int .i64 (q.1:Int),.int .i64 (q.2:Int)]) (cn pV 0 l)=some (.int .i64 (i:Int)):=by simpa [nV,pV] using hm
   obtain ⟨h1,h2⟩:=fp hp
   rw [h1,h2]
   simp (disch:=omega) [-List.reduceReplicate,c7,ktP,nV,pV,aY,kOf,az,aR,dG,hm]
 | none=>
   rw [hp] at hm
   replace hm:gb (.strct [.int .i64 (q.1:Int),.int .i64 (q.2:Int)]) (cn pV 0 l)=none:=by simpa [nV,pV] using hm
   have hpt:=kj GW q l 0 hp
   replace hpt:im (.strct [.int .i64 (q.1:Int),.int .i64 (q.2:Int)]) (.int .i64 (l.length:Int)) (cn pV 0 l)=cn pV 0 (l++[q]):=by simpa [nV,pV] using hpt
   obtain ⟨h1,h2⟩:=kH hp
   rw [h1,h2]
   simp (disch:=omega) [-List.reduceReplicate,c7,ktP,nV,pV,aY,kOf,az,aR,dG,hm,hpt]
theorem vp (q:Nat × Nat):FnH Tryz.prog o9 [] [.ref 0 1] [some (.arr bA 2 [pV q])] (.ptr 0 0) (c7 ktP bA 2 pV [q]):=by
 refine FnH.of_image mixed pm pg rfl fun ho hh=>?_
 unfold hZ
 clear ho hh
 simp (disch:=omega) [-List.reduceReplicate,pV]
 refine ak (fun k:Nat=>if k=0 then ⟨[(3,.ptr 0 0),(9,.ref 1 1),(10,.int .i64 1),(11,.int .i64 0)],[some (.box [.ref 2 0,.nil 2]),some (.arr bA 2 [pV q]),some (.mp ktP [])]⟩ else ⟨[(3,.ptr 0 0),(9,.ref 1 1),(10,.int .i64 1),(11,.int .i64 1)],[some (.box [.ref 2 0,.ref 3 1]),some (.arr bA 2 [pV q]),some (.mp ktP (cn pV 0 [q])),some (.arr bA 2 [pV q])]⟩) (fun k=>k≤1) (fun k=>1 - k) [] _ 0 rfl (by simp [ktP,pV]) (by simp) ?_
 intro k hk N hN
 have hadd:=qX q
 simp [pV] at hadd
 rcases (show k=0∨k=1 by omega) with rfl | rfl
 · simp (disch:=omega) [-List.reduceReplicate,pV]
   refine ah [0] 1 [0,2] (by simp) (by simp) (by simp) (by simp) hadd (by simp) fun _ _=>?_
   simp (disch:=omega) [-List.reduceReplicate]
   exact hN.out _<|Nx.mk 1 (by simp [pV]) (by simp) (by simp)
 · simp (disch:=omega) [-List.reduceReplicate,pV]
theorem Dg {a b:Aut} {p:Nat × Nat} {c x y:Nat} {r s:List Nat} (hr:a.next[p.1]?=some r) (hx:r[c]?=some x) (hs:b.next[p.2]?=some s) (hy:s[c]?=some y):
 FnH Tryz.prog eI [2,3] [pV p,nV c,.ptr 0 0,.ptr 1 0] [some (.box (Aut.c a)),some (.box (Aut.c b))] (pV (x,y)) [some (.box (Aut.c a)),some (.box (Aut.c b))]:=by
 refine FnH.of_image mixed CO Cu rfl fun ho hh=>?_
 unfold sN
 clear ho hh
 simp (disch:=omega) [-List.reduceReplicate,Aut.c,pV,hr,hx,hs,hy]
theorem Jm {P:Program} {fn:Func} {K:List (List Nat)} {n:Nat} {r:AC × List RV} (h:an P fn K n=some r):am P fn [] [] K n=some r:=by
 unfold an at h
 unfold am
 simpa using h
theorem GS {a b:Aut}:FnH Tryz.prog F3 [] [.strct (Aut.c a),.strct (Aut.c b)] [] (.fn (.func eI) [] [.ptr 0 0,.ptr 1 0]) [some (.box (Aut.c a)),some (.box (Aut.c b))]:=by
 refine FnH.of_image mixed Gq (Jm Gi) rfl fun ho hh=>?_
 unfold x9
 clear ho hh
 simp (disch:=omega) [-List.reduceReplicate,Aut.c]
theorem xH {a b:Aut} {p:Nat × Nat} {f1 f2:Bool} (h1:a.final[p.1]?=some f1) (h2:b.final[p.2]?=some f2) {g:Nat} {op:Bool→Bool→Bool} (hg:∀ x y,Fn Tryz.prog g [.bool x,.bool y] (.bool (op x y))):
 FnH Tryz.prog eG [1,2,3] [pV p,.ptr 0 0,.ptr 1 0,.ptr 2 0] [some (.box [.fn (.func g) [] []]),some (.box (Aut.c a)),some (.box (Aut.c b))] (.bool (op f1 f2)) [some (.box [.fn (.func g) [] []]),some (.box (Aut.c a)),some (.box (Aut.c b))]:=by
 refine FnH.of_image mixed xl w8 rfl fun ho hh=>?_
 unfold n8
 clear ho hh
 simp (disch:=omega) [-List.reduceReplicate,Aut.c,pV,h1,h2]
 refine aN (hg f1 f2) rfl ?_
 simp (disch:=omega) [-List.reduceReplicate]
theorem GU (x y:Bool):Fn Tryz.prog wN [.bool x,.bool y] (.bool (x && y)):=by
 refine Fn.of_image mixed xn xa rfl fun ho=>?_
 unfold oc
 simp only [oks,ok,and_true] at ho
 clear ho
 cases x<;>simp (disch:=omega) [-List.reduceReplicate]
def cf (a b:Aut) (p:Nat × Nat) (c:Nat):Nat × Nat:=(a.δ p.1 c,b.δ p.2 c)
def fH (a b:Aut) (op:Bool→Bool→Bool) (p:Nat × Nat):Bool:=op (a.F p.1) (b.F p.2)
def gr (a b:Aut) (g:Nat):List (Option Ob):=[some (.box (Aut.c a)),some (.box (Aut.c b)),some (.box [.fn (.func g) [] []]),some (.box (Aut.c a)),some (.box (Aut.c b))]
def lsP (a b:Aut) (g:Nat) (fr by':List Nat) (l:List (Nat × Nat)):List (Option Ob):=gr a b g++[some (.box [.ref 8 0,.ref 9 l.length]),some (.arr aw 1 (fr.map nV)),some (.arr dj 1 (by'.map u8V)),some (.mp ktP (cn pV 0 l)),some (.arr bA 2 (l.map pV))]
def lsQ (a b:Aut) (g:Nat) (fr by':List Nat) (last:Nat × Nat) (l:List (Nat × Nat)):List (Option Ob):=gr a b g++[some (.box [.ref 9 0,.ref 10 l.length]),some (.arr aw 1 (fr.map nV)),some (.arr dj 1 (by'.map u8V)),some (.box [nV last.1,nV last.2]),some (.mp ktP (cn pV 0 l)),some (.arr bA 2 (l.map pV))]
theorem py {α β:Type} {f:α→β}:∀ {l:List α},l.Nodup→(∀ x∈l,∀ y∈l,f x=f y→x=y)→(l.map f).Nodup
 | [],_,_=>by simp
 | x::l,h,hi=>by
   rw [List.nodup_cons] at h
   rw [List.map_cons,List.nodup_cons]
   refine ⟨fun hm=>?_,py h.2 fun y hy z hz=>hi y (by simp [hy]) z (by simp [hz])⟩
   obtain ⟨y,hy,e⟩:=List.mem_map.1 hm
   have:=hi y (by simp [hy]) x (by simp) e
   subst this
   exact h.1 hy
theorem f7 {n m:Nat} {l:List (Nat × Nat)} (h:l.Nodup) (hd:∀ x∈l,x.1 < n∧x.2 < m):l.length≤n * m:=by
 have:=cA (n * m) (l.map fun p=>p.1 * m + p.2) (py h fun x hx y hy e=>by
  have h1:=Eg (i:=x.1) (hd x hx).2
  have h2:=Eg (i:=y.1) (hd y hy).2
  rw [e] at h1
  exact Prod.ext (h1.1.symm.trans h2.1) (h1.2.symm.trans h2.2)) fun x hx=>by
   obtain ⟨p,hp,rfl⟩:=List.mem_map.1 hx
   exact OX (hd p hp).1 (hd p hp).2
 simpa using this
theorem C9 {a b:Aut} (ha:a.ok) (hb:b.ok) (hab:a.n * b.n≤250000) {g:Nat} {op:Bool→Bool→Bool} (hg:∀ x y,Fn Tryz.prog g [.bool x,.bool y] (.bool (op x y))) (r:Option (List Nat)) (hr:dB (cf a b) (fH a b op) (a.n * b.n + 1) 0 [(0,0)] [[]]=some r):
 FnH Tryz.prog m9 [1,2] [pV (0,0),.fn (.func eI) [] [.ptr 0 0,.ptr 1 0],.fn (.func eG) [] [.ptr 2 0,.ptr 3 0,.ptr 4 0]] (gr a b g) (oV r) (gr a b g):=by
 refine FnH.of_image mixed nA nn rfl fun ho hh=>?_
 unfold gz
 clear ho hh
 obtain ⟨X,hX⟩:∃ X,X=oV r:=⟨_,rfl⟩
 rw [←hX]
 have hnl:a.next.length=a.n:=rfl
 have hnl2:b.next.length=b.n:=rfl
 have hD:∀ (q:Nat × Nat) (c:Nat),(q.1 < a.n∧q.2 < b.n)→c < 95→((cf a b q c).1 < a.n∧(cf a b q c).2 < b.n):=fun q c hq hc=>⟨ha.lt hq.1 hc,hb.lt hq.2 hc⟩
 have hfl:a.final.length=a.n:=ha.fin
 have hfl2:b.final.length=b.n:=hb.fin
 have hmeet:=vp (0,0)
 simp [pV] at hmeet
 simp (disch:=omega) [-List.reduceReplicate,Aut.c,gr,pV]
 refine ah [] 0 [6] (by simp) (by simp) (by simp) (by simp) hmeet (by simp) fun _ _=>?_
 simp (disch:=omega) [-List.reduceReplicate]
 refine ak (fun (x:Nat × Nat × List (Nat × Nat) × List Nat × List Nat × List (List Nat))=>⟨[(1,.fn (.func eI) [] [.ptr 0 0,.ptr 1 0]),(2,.fn (.func eG) [] [.ptr 2 0,.ptr 3 0,.ptr 4 0]),(8,.ptr 5 0),(9,.ref 6 x.2.2.1.length),(10,.ref 7 x.2.2.1.length),(11,nV x.2.1)],lsP a b g x.2.2.2.1 x.2.2.2.2.1 x.2.2.1⟩)
  (fun x=>LInv (cf a b) (0,0) (fun q=>q.1 < a.n∧q.2 < b.n) x.2.1 0 x.2.2.1 x.2.2.2.2.2∧x.2.1≤x.2.2.1.length∧CameBy x.2.2.2.1 x.2.2.2.2.1 x.2.2.2.2.2∧Qk x.2.2.2.2.2∧dB (cf a b) (fH a b op) x.1 x.2.1 x.2.2.1 x.2.2.2.2.2=some r) (fun x=>x.1) [] _ (a.n * b.n + 1,0,[(0,0)],[0],[0],[[]]) rfl (by simp [lsP,gr,cn,Aut.c,ktP,pV])
  ⟨LInv.begin ⟨ha.pos,hb.pos⟩,by simp,⟨rfl,rfl,fun w hw=>by simpa using hw.symm,fun i w hi hw=>by cases i with | zero=>omega | succ i=>simp at hw⟩,fun k w hw=>by cases k with | zero=>(simp at hw; subst hw; simp) | succ k=>simp at hw,hr⟩ ?_
 rintro ⟨f,i,l,fr,by',ws⟩ ⟨hI,hil,hC,hwl,hgo⟩ N hN
 simp only at hI hil hC hwl hgo
 have hln:=f7 hI.nodup hI.dom
 have hwsl:=hI.len
 have hfrl:=hC.len1
 have hbyl:=hC.len2
 cases f with
 | zero=>simp [dB] at hgo
 | succ f=>
 simp only [dB] at hgo
 rcases Nat.lt_or_ge i l.length with hlt | hge
 · obtain ⟨q,hq⟩:=ap hlt
   obtain ⟨w,hw⟩:=ap (l:=ws) (k:=i) (by omega)
   have hqn:=hI.dom q (List.mem_of_getElem? hq)
   obtain ⟨f1,hf1⟩:=ap (l:=a.final) (k:=q.1) (by omega)
   obtain ⟨f2,hf2⟩:=ap (l:=b.final) (k:=q.2) (by omega)
   have hF:fH a b op q=op f1 f2:=by simp [fH,Aut.F,fin,hf1,hf2]
   rw [hq,hw] at hgo
   simp only [Option.getD_some,hF] at hgo
   have hgood:=xH (a:=a) (b:=b) hf1 hf2 hg
   obtain ⟨bb,hbb⟩:∃ bb,bb=op f1 f2:=⟨_,rfl⟩
   rw [←hbb] at hF hgood hgo
   simp [pV,Aut.c] at hgood
   have hw95:=(hI.run i q w hq hw).2
   replace hgo:=hid hgo
   simp (disch:=omega) [-List.reduceReplicate,lsP,gr,pV,hq,Aut.c]
   refine ah [1,2,3] 3 [2,3,4] (by simp) (by simp) (by simp) (by simp [Aut.c]) hgood (by simp) fun _ _=>?_
   simp (disch:=omega) [-List.reduceReplicate,Aut.c]
   cases bb with
   | true=>
     have hgo:=hgo.out
     simp only [if_true,Option.some.injEq] at hgo
     subst hgo
     have hpath:=GQ fr by' ws hC (by omega) i w hw hw95 (hwl i w hw)
     simp at hpath
     simp (disch:=omega) [-List.reduceReplicate,hfrl,hbyl,hwsl]
     refine ae hpath rfl fun _=>?_
     simp (disch:=omega) [-List.reduceReplicate,Aut.c,gr,hX,oV]
   | false=>
     have hgo:=hgo.out
     rw [if_neg (by decide)] at hgo
     obtain ⟨T,hT⟩:∃ T,T=qA (cf a b q) w 95 0 l ws:=⟨_,rfl⟩
     rw [←hT] at hgo
     replace hgo:=hid hgo
     simp (disch:=omega) [-List.reduceReplicate,hq,Aut.c,pV]
     have hposq:pos eqB q l=some i:=by
      refine vA ?_ hq
      intro j k x y hjk hx hy
      have:=(List.pairwise_iff_getElem.1 (List.nodup_iff_pairwise_ne.1 hI.nodup)) j k (List.getElem?_eq_some_iff.1 hx).1 (List.getElem?_eq_some_iff.1 hy).1 hjk
      rw [(List.getElem?_eq_some_iff.1 hx).2,(List.getElem?_eq_some_iff.1 hy).2] at this
      simp [eqB,this]
     refine ak (fun (x:Nat × (Nat × Nat) × List (Nat × Nat) × List Nat × List Nat × List (List Nat))=>⟨[(1,.fn (.func eI) [] [.ptr 0 0,.ptr 1 0]),(2,.fn (.func eG) [] [.ptr 2 0,.ptr 3 0,.ptr 4 0]),(8,.ptr 5 0),(9,.ref 6 x.2.2.1.length),(10,.ref 7 x.2.2.1.length),(11,nV i),(12,.ptr 8 0),(49,nV x.1)],lsQ a b g x.2.2.2.1 x.2.2.2.2.1 x.2.1 x.2.2.1⟩)
      (fun x=>x.1≤95∧LInv (cf a b) (0,0) (fun q=>q.1 < a.n∧q.2 < b.n) i x.1 x.2.2.1 x.2.2.2.2.2∧CameBy x.2.2.2.1 x.2.2.2.2.1 x.2.2.2.2.2∧Qk x.2.2.2.2.2∧x.2.2.1[i]?=some q∧x.2.2.2.2.2[i]?=some w∧(pos eqB x.2.1 x.2.2.1).isSome=true∧qA (cf a b q) w (95 - x.1) x.1 x.2.2.1 x.2.2.2.2.2=T) (fun x=>95 - x.1) [] _ (0,q,l,fr,by',ws) rfl (by simp [lsP,lsQ,gr,pV,Aut.c,hfrl,hbyl,hwsl]) ⟨by simp,hI,hC,hwl,hq,hw,by simp [hposq],by simp [hT]⟩ ?_
     rintro ⟨c,last,l',fr',by2,ws'⟩ ⟨hc,hI',hC',hwl',hq',hw',hp,hrow⟩ M hM
     simp only at hc hI' hC' hwl' hq' hw' hp hrow
     have hln':=f7 hI'.nodup hI'.dom
     have hwsl':=hI'.len
     have hfrl':=hC'.len1
     have hbyl':=hC'.len2
     have hil':=(List.getElem?_eq_some_iff.1 hq').1
     rcases Nat.lt_or_ge c 95 with hc95 | hc95
     · obtain ⟨rr,t1,hr1,hr2,hr3,hr4⟩:=ha.rows.dl (q:=q.1) (c:=c) (by omega) hc95
       obtain ⟨rr2,t2,hr5,hr6,hr7,hr8⟩:=hb.rows.dl (q:=q.2) (c:=c) (by omega) hc95
       have hl1:=Dg (a:=a) (b:=b) (p:=q) hr1 hr2 hr5 hr6
       obtain ⟨t,ht⟩:∃ t:Nat × Nat,t=(t1,t2):=⟨_,rfl⟩
       have hδ:cf a b q c=t:=by rw [ht]; exact Prod.ext hr3 hr7
       rw [←ht] at hl1
       simp [pV,Aut.c] at hl1
       obtain ⟨m',hm'⟩:∃ m',95 - c=m' + 1:=⟨94 - c,by omega⟩
       have hm2:95 - (c + 1)=m':=by omega
       rw [hm'] at hrow
       simp only [qA,hδ] at hrow
       have hstep:=hI'.one hD hc95 hq' hw'
       rw [hδ] at hstep
       replace hrow:=hid hrow
       simp (disch:=omega) [-List.reduceReplicate,lsQ,gr,pV,hq',Aut.c]
       refine ah [2,3] 2 [0,1] (by simp) (by simp) (by simp) (by simp [Aut.c]) hl1 (by simp) fun _ _=>?_
       have hek:eqK (V.strct [V.int IntKind.i64 (t.1:Int),V.int IntKind.i64 (t.2:Int)]) (V.strct [V.int IntKind.i64 (last.1:Int),V.int IntKind.i64 (last.2:Int)])=decide (t=last):=by simpa [pV] using GW t last
       have hadd:=xD l' t (by omega)
       simp [pV] at hadd
       simp (disch:=omega) [-List.reduceReplicate,Aut.c,aR,dG,aY,kOf,az,hek]
       by_cases htl:t=last
       · subst htl
         have hrow:=hrow.out
         rw [if_pos hp] at hrow
         rw [if_pos hp,if_pos hp] at hstep
         simp (disch:=omega) [-List.reduceReplicate]
         exact hM.out _<|Nx.mk (c + 1,t,l',fr',by2,ws') (by simp [lsP,lsQ,gr,pV,Aut.c]) ⟨by simp only; omega,hstep,hC',hwl',hq',hw',hp,by simpa [hm2] using hrow⟩ (by simp only; omega)
       · simp (disch:=omega) [-List.reduceReplicate,htl]
         refine ah [0] 1 [5,9,10] (by simp) (by simp) (by simp) (by simp) hadd (by simp) fun _ _=>?_
         cases hpt:pos eqB t l' with
         | some j=>
           have hjl:=QV hpt
           obtain ⟨e1,e2⟩:=fp hpt
           have hrow:=hrow.out
           have hps:(pos eqB t l').isSome=true:=by simp [hpt]
           rw [if_pos hps] at hrow
           rw [if_pos hps,if_pos hps] at hstep
           have hne:¬j=l'.length:=by omega
           simp (disch:=omega) [-List.reduceReplicate,e1,e2,hfrl',hwsl',hne,Aut.c]
           exact hM.out _<|Nx.mk (c + 1,t,l',fr',by2,ws') (by simp [lsP,lsQ,gr,pV,Aut.c]) ⟨by simp only; omega,hstep,hC',hwl',hq',hw',hps,by simpa [hm2] using hrow⟩ (by simp only; omega)
         | none=>
           obtain ⟨e1,e2⟩:=kH hpt
           have hrow:=hrow.out
           have hps:¬(pos eqB t l').isSome=true:=by simp [hpt]
           rw [if_neg hps] at hrow
           rw [if_neg hps,if_neg hps] at hstep
           have hC2:=hC'.add hw' hc95
           have hwl2:Qk (ws'++[w++[c]]):=fun k u hu=>by
            rcases Nat.lt_or_ge k ws'.length with hk | hk
            · rw [List.getElem?_append_left hk] at hu; exact hwl' k u hu
            · have hkk:=(List.getElem?_eq_some_iff.1 hu).1
              simp at hkk
              have:k=ws'.length:=by omega
              subst this
              rw [List.getElem?_append_right (Nat.le_refl _),Nat.sub_self] at hu
              simp only [List.getElem?_cons_zero,Option.some.injEq] at hu
              subst hu
              have:=hwl' i w hw'
              simp
              omega
           simp (disch:=omega) [-List.reduceReplicate,e1,e2,hfrl',hwsl',hbyl',Aut.c]
           exact hM.out _<|Nx.mk (c + 1,t,l'++[t],fr'++[i],by2++[32 + c],ws'++[w++[c]]) (by simp [lsP,lsQ,gr,pV,Aut.c]) ⟨by simp only; omega,hstep,hC2,hwl2,by rw [List.getElem?_append_left hil']; exact hq',by rw [List.getElem?_append_left (by omega)]; exact hw',by simp [wn hpt],by simpa [hm2] using hrow⟩ (by simp only; omega)
     · have hc0:c=95:=by omega
       subst hc0
       simp only [Nat.sub_self,qA] at hrow
       subst hrow
       have hgo:=hgo.out
       simp (disch:=omega) [-List.reduceReplicate,lsP,lsQ,gr,pV,Aut.c]
       exact hN.out _<|Nx.mk (f,i + 1,l',fr',by2,ws') (by simp [lsP,lsQ,gr,pV,Aut.c]) ⟨hI'.next hil',by simp only; omega,hC',hwl',hgo⟩ (by simp only; omega)
 · have:i=l.length:=by omega
   rw [List.getElem?_eq_none (by omega)] at hgo
   simp only [Option.some.injEq] at hgo
   subst hgo
   simp (disch:=omega) [-List.reduceReplicate,lsP,lsQ,gr,pV,Aut.c,hX,oV]
theorem Dd {a b:Aut} (ha:a.ok) (hb:b.ok) (han:a.n≤500) (hbn:b.n≤500) {g:Nat} {op:Bool→Bool→Bool} (hg:∀ x y,Fn Tryz.prog g [.bool x,.bool y] (.bool (op x y))) (r:Option (List Nat)) (hr:dB (cf a b) (fH a b op) (a.n * b.n + 1) 0 [(0,0)] [[]]=some r):
 Fn Tryz.prog BY [.strct (Aut.c a),.strct (Aut.c b),.fn (.func g) [] []] (oV r):=by
 refine Fn.of_imageE mixed CL Cr rfl fun ho=>?_
 unfold sK
 simp only [oks,ok,and_true] at ho
 clear ho
 have hab:a.n * b.n≤250000:=Nat.le_trans (Nat.mul_le_mul han hbn) (by decide)
 have hma:=li ha (by omega)
 have hmb:=li hb (by omega)
 have hbo:=GS (a:=a) (b:=b)
 have hl:=C9 ha hb hab hg r hr
 obtain ⟨X,hX⟩:∃ X,X=oV r:=⟨_,rfl⟩
 rw [←hX]
 simp [Aut.c] at hma hmb hbo
 simp [Aut.c,gr,pV] at hl
 simp (disch:=omega) [-List.reduceReplicate,Aut.c]
 refine ae hma rfl fun _=>?_
 simp (disch:=omega) [-List.reduceReplicate]
 refine ae hmb rfl fun _=>?_
 simp (disch:=omega) [-List.reduceReplicate]
 refine ah [] 0 [] (by simp) (by simp) (by simp) (by simp) hbo (by simp) fun _ _=>?_
 simp (disch:=omega) [-List.reduceReplicate]
 refine ah [1,2] 5 [3,4,2,0,1] (by simp) (by simp) (by simp) (by simp) hl (by simp) fun _ _=>?_
 cases r with
 | none=>simp (disch:=omega) [-List.reduceReplicate,oV,hX]
 | some w=>simp (disch:=omega) [-List.reduceReplicate,oV,hX]
theorem wa {a b:Aut}:∀ (w:List Nat) (p q:Nat),w.foldl (cf a b) (p,q)=(w.foldl a.δ p,w.foldl b.δ q)
 | [],_,_=>rfl
 | c::w,p,q=>wa w _ _
theorem sy {a b:Aut} (ha:a.ok) (hb:b.ok) (han:a.n≤500) (hbn:b.n≤500) (r:Option (List Nat)) (hr:dB (cf a b) (fH a b fun x y=>x && y) (a.n * b.n + 1) 0 [(0,0)] [[]]=some r):
 Fn Tryz.prog kZ [.strct (Aut.c a),.strct (Aut.c b)] (oV r):=by
 refine Fn.of_image mixed CP Cv rfl fun ho=>?_
 unfold sO
 simp only [oks,ok,and_true] at ho
 clear ho
 have hs:=Dd ha hb han hbn GU r hr
 simp [Aut.c] at hs
 simp (disch:=omega) [-List.reduceReplicate,Aut.c]
 cases r with
 | none=>
   simp [oV] at hs
   refine aj hs (by simp) fun _=>?_
   simp (disch:=omega) [-List.reduceReplicate,oV]
 | some w=>
   simp [oV] at hs
   refine aj hs (by simp) fun _=>?_
   simp (disch:=omega) [-List.reduceReplicate,oV]
def uR:AC:=
 Q [.reg [bx 1 0,o1 2 (.alc [.nil 1,.nil 1])] [1,2],
 Q [.reg [la 6 1 2,ca 7 tl [6],bi 8 .neq 7 0] [1,2,8],
  C 8 (Q [.reg [o1 9 (.bld [.nil 1,.nil 1] []),st 2 2 9] [2],
    .ret]) (.skip)],
 .reg [o1 3 (.alc [.nil 1,.nil 1])] [1,2,3],
 Q [.reg [fa 10 1 0,l1 11 10,lq 12 11,mi 13 0] [1,2,3,11,12,13],
  .block 0 (.loop [1,2,3,11,12,13] (Q [.reg [bt 14 .lss 13 12] [1,2,3,11,12,13,14],
   C 14 (.skip) (.exit 0),
   .block 1 (Q [.reg [m 15 13,ia 16 11 13 1,l1 17 16,m 4 15,m 5 17] [1,2,3,4,5,11,12,13],
    .regF (OQ [m 20 5] (.both
     (OQ [fa 18 3 0] (.both
       (OQ [l1 19 18,o1 21 (.app (.v (.nil 1)) (.t 20) 3 1 8),o1 22 (.ltr aD 1 [.t 21]),o1 23 (.app (.t 19) (.t 22) aD 1 24),fa 24 3 0,st 1 24 23] .nil)
       (OQ [o1 21 (.app (.v (.nil 1)) (.t 20) 3 1 8)] (.both
         (OQ [l1 19 18,o1 22 (.ltr aD 1 [.t 21]),o1 23 (.app (.t 19) (.t 22) aD 1 24),fa 24 3 0,st 1 24 23] .nil)
         (OQ [o1 22 (.ltr aD 1 [.t 21]),l1 19 18,o1 23 (.app (.t 19) (.t 22) aD 1 24),fa 24 3 0,st 1 24 23] .nil)))))
     (OQ [o1 21 (.app (.v (.nil 1)) (.t 20) 3 1 8)] (.both
       (OQ [fa 18 3 0] (.both
         (OQ [l1 19 18,o1 22 (.ltr aD 1 [.t 21]),o1 23 (.app (.t 19) (.t 22) aD 1 24),fa 24 3 0,st 1 24 23] .nil)
         (OQ [o1 22 (.ltr aD 1 [.t 21]),l1 19 18,o1 23 (.app (.t 19) (.t 22) aD 1 24),fa 24 3 0,st 1 24 23] .nil)))
       (OQ [o1 22 (.ltr aD 1 [.t 21]),fa 18 3 0,l1 19 18,o1 23 (.app (.t 19) (.t 22) aD 1 24),fa 24 3 0,st 1 24 23] .nil))))) [1,2,3,4,11,12,13],
    .regD [fa 25 3 1,l1 26 25,fa 27 1 1,l1 28 27,m 29 4,ia 30 28 29 1,l1 31 30,nt' 32 31,o1 33 (.lit 4 1 [.t 32]),o1 34 (.app (.t 26) (.t 33) 4 1 1),fa 35 3 1,st 1 35 34] [1,2,3,11,12,13]]),
   .reg [bi 36 .add 13 1,m 13 36] [1,2,3,11,12,13]]))],
 .reg [la 37 3 2,st 2 2 37] [2],
 .ret]
theorem Ep:am Tryz.prog Tryz.f115 [] [2000000 + aD] [[1,2],[1,2,8],[2],[1,2,3],[1,2,3,11,12,13],[1,2,3,11,12,13],[1,2,3,11,12,13,14],[1,2,3,4,5,11,12,13],[1,0,1,0,4,12,31,63,127],[1,2,3,4,11,12,13],[0,0,1,0,4,0,28,60,124,252,511,1023,2047],[0,1,2,3,4,5,6,7,8,9,10,11],[1,2,3,11,12,13],[1,2,3,11,12,13],[2]] 1=some (uR,[.c 2 2 true]):=by kernel_rfl
theorem R3 {Φ:Ctr} {d:Option Nat} {K:St→Prop} {σ:St} {e sz:Nat} {xs:List AO}:ag Φ d (.ltr e sz xs) K σ=af Φ d (.ltr e sz xs) K σ:=propext Iff.rfl
attribute [local simp] R3
def mY (a:Aut):Aut:=⟨a.next,a.final.map (!·)⟩
theorem oO {a:Aut} (ha:a.ok) (hn:a.n≤500):Fn Tryz.prog IX [.strct (Aut.c a)] (.strct (Aut.c (mY a))):=by
 refine Fn.of_imageE mixed Jr Ep rfl fun ho=>?_
 unfold uR
 clear ho
 have hnl:a.next.length=a.n:=rfl
 have hfl:a.final.length=a.n:=ha.fin
 have hma:=li ha hn
 obtain ⟨R,hR⟩:∃ R,R=V.strct (Aut.c (mY a)):=⟨_,rfl⟩
 rw [←hR]
 obtain ⟨fs,hfs⟩:∃ fs,fs=a.final.map (!·):=⟨_,rfl⟩
 have hfsl:fs.length=a.n:=by rw [hfs]; simp [hfl]
 simp [Aut.c] at hma
 simp (disch:=omega) [-List.reduceReplicate,Aut.c]
 refine ae hma rfl fun _=>?_
 simp (disch:=omega) [-List.reduceReplicate,hnl]
 refine ak (fun k:Nat=>⟨[(1,.ptr 0 0),(2,.ptr 1 0),(3,.ptr 2 0),(11,.seq 1 (a.next.map bL)),(12,.int .i64 a.n),(13,nV k)],[some (.box (Aut.c a)),some (.box [.nil 1,.nil 1]),some (.box [.ref 3 k,.ref 4 k]),some (.arr aD 1 ((a.next.take k).map bL)),some (.arr bz 1 ((fs.take k).map V.bool))]⟩) (fun k=>k≤a.n) (fun k=>a.n - k) [.b 2 0 aD 1,.b 2 1 bz 1] _ 0 rfl (by simp [Aut.c]) (by simp) ?_
 intro k hk N hN
 rcases Nat.lt_or_ge k a.n with hlt | hge
 · obtain ⟨r,hr⟩:=ap (l:=a.next) (k:=k) (by omega)
   obtain ⟨f,hf⟩:=ap (l:=a.final) (k:=k) (by omega)
   have hrl:r.length=95:=(ha.rows r (List.mem_of_getElem? hr)).1
   have hfg:fs[k]?=some (!f):=by rw [hfs,List.getElem?_map,hf]; rfl
   have hrt:=aS hr
   have hft:=aS hfg
   have hrtl:(a.next.take k).length=k:=by simp; omega
   have hftl:(fs.take k).length=k:=by simp; omega
   simp (disch:=omega) [-List.reduceReplicate,Aut.c,hr,hrtl,hftl]
   refine ct ⟨[(1,.ptr 0 0),(2,.ptr 1 0),(3,.ptr 2 0),(4,nV k),(11,.seq 1 (a.next.map bL)),(12,.int .i64 a.n),(13,nV k)],[some (.box (Aut.c a)),some (.box [.nil 1,.nil 1]),some (.box [.ref 3 (k + 1),.ref 4 k]),some (.arr aD 1 ((a.next.take k++[r]).map bL)),some (.arr bz 1 ((fs.take k).map V.bool))]⟩ (fun F hF=>?_) ?_
   · simp [Aut.c] at hF
     repeat' first | exact hF | refine Bs.mk ?_ ?_ | simp (disch:=omega) [-List.reduceReplicate,hrtl,hftl,hrl]
   simp (disch:=omega) [-List.reduceReplicate,Aut.c,hf,hrtl,hftl]
   exact hN.out _<|Nx.mk (k + 1) (by rw [hrt,hft]; simp [Aut.c]) (by omega) (by omega)
 · have:k=a.n:=by omega
   subst this
   have h1:a.next.take a.n=a.next:=List.take_of_length_le (by omega)
   have h2:fs.take a.n=fs:=List.take_of_length_le (by omega)
   simp (disch:=omega) [-List.reduceReplicate,Aut.c,h1,h2]
   rw [hR,hfs]
   simp [mY,Aut.c]
end Go.Abs
end
