/- Plain: the nodes of trees have these trees again, and are stable. No condition. -/
import Derived.Test.YtloaikaippankaaGreatDoorQR17
set_option linter.all false set_option maxRecDepth 100000
set_option maxHeartbeats 4000000
open Go.Proofs.Tryz renaming prog→ŷ open List renaming reduceReplicate→zAa
namespace Go.Abs.F
open Go.Proofs Go.Aut
attribute [-simp] getElem?_pos Option.not_isSome List.map_map
theorem nba{p q:Policy} (hp:RulesOK p)(hq:RulesOK q){el:Str}{a:Attr}{b:Label} (hb:b∈aY p q) (h:YW p q el a b=true):YW p q el ⟨b.name,b.value⟩=YW p q el a:=by
 obtain⟨h1,h2,h3,h4,h5⟩:=wD.1 h
 obtain⟨_,_,_,_,_,e4,e5⟩:=JS hp hq hb h1
 subst h2
 funext d
 rw[Bool.eq_iff_iff,wD,wD]
 simp only[e4,e5,<-h3,<-h4]
 constructor
 ·rintro⟨g1,g2,g3,g4,g5⟩
  exact⟨g1,g2,g3,g4,λc hc=>(g5 c hc).trans (h5 c hc)⟩
 ·rintro⟨g1,g2,g3,g4,g5⟩
  exact⟨g1,g2,g3,g4,λc hc=>(g5 c hc).trans (h5 c hc).symm⟩
theorem nbb{p q:Policy} (hp:RulesOK p)(hq:RulesOK q){el:Str}{a:Attr} (h:0<=bf p q (aY p q) el a) :
  ∃ b∈aY p q,b.kind=4∧fV (aY p q) (bf p q (aY p q) el a).toNat=b∧bf p q (aY p q) el ⟨b.name,b.value⟩=bf p q (aY p q) el a:=by
 obtain⟨b,hb,hh⟩:=C3 h
 refine⟨b,List.mem_of_getElem? hb,(wD.1 hh).1,BR hb,?_⟩
 simp only[bf,nba hp hq (List.mem_of_getElem? hb) hh]
theorem nbc{L:List Label}:∀ zs:List Nat,(∀ z∈zs,(fV L z).kind=4)->cX L (zs.map bP)=zs.map λz=>⟨(fV L z).name,(fV L z).value⟩
 | [],_=>rfl
 | z :: zs,h=>by
  have e:cX L ((z :: zs).map bP)=Av L (bP z)++cX L (zs.map bP):=rfl
  have ht:(bP z).label=z:=rfl
  rw[e,nbc zs λy hy=>h y (by simp[hy]),Av,ht,if_pos (h z (by simp))]
  rfl
theorem nbd (l:List Nat):dz (dz l)=dz l:=by
 have h:=FV l
 exact List.mergeSort_of_pairwise (h.imp λh=>by simpa using h)
theorem nbe (L:List Label) (F:Str->Attr->Int):∀ (a b:List Node),bc L F (a++b)=(bc L F a).bind λx=>(bc L F b).map λy=>x++y
 | [],b=>by simp[bc]
 | n :: a,b=>by
  simp only[List.cons_append,pS,nbe L F a b]
  cases mS L F n with
  | none=>rfl
  | some t=>cases bc L F a with
   | none=>rfl
   | some x=>cases bc L F b <;> rfl
theorem nbf{p q:Policy} (hp:RulesOK p)(hq:RulesOK q):∀ l:List Node,aq ndC l->∀ ts,bc (aY p q) (bf p q (aY p q)) l=some ts →
  bc (aY p q) (bf p q (aY p q)) (br (aY p q) ts)=some ts∧cX (aY p q) ts=[]:=by
 refine aE (λ_ ts h=>by simp[bc] at h; subst h; exact⟨rfl,rfl⟩) ?_
 intro n l h1 h2 ha ts h
 simp only[aq,bE] at ha
 rw[pS] at h
 cases ht:mS (aY p q) (bf p q (aY p q)) n with
 | none=>rw[ht] at h; cases h
 | some t =>
  cases hts:bc (aY p q) (bf p q (aY p q)) l with
  | none=>rw[ht,hts] at h; cases h
  | some us =>
   rw[ht,hts] at h
   simp only[Option.bind_some,Option.map_some,Option.some.injEq] at h
   subst h
   obtain⟨i1,i2⟩:=h2 ha.2 us hts
   have hc:cX (aY p q) (t :: us)=Av (aY p q) t++cX (aY p q) us:=rfl
   rw[hc,i2,List.append_nil,br,nbe,i1]
   rw[ov] at ht
   split at ht
   ·cases ht
   ·rename_i hpl
    obtain⟨b,hb1,hb2⟩:=iZ (L:=aY p q) (k:=n.kind) (nm:=n.name) (by omega)
    have htold:=BR hb1
    split at ht
    ·rename_i hk
     split at ht
     ·rename_i hall
      split at ht
      ·cases ht
      ·rename_i vs hvs
       cases ht
       obtain⟨k1,k2⟩:=h1 ha.1.2 vs hvs
       rw[hk] at hb1 hb2 hpl htold
       have hb3:b.kind=3∧b.element=n.name:=by simpa[fG] using hb2
       have hz:∀ z∈dz (n.attrs.map λx=>(bf p q (aY p q) n.name x).toNat),(fV (aY p q) z).kind=4∧bf p q (aY p q) n.name ⟨(fV (aY p q) z).name,(fV (aY p q) z).value⟩=z:=λz hz=>by
        obtain⟨a,ha',rfl⟩:=List.mem_map.1 ((bo _).mem_iff.1 hz)
        have:=List.all_eq_true.1 hall a ha'
        have h0:0<=bf p q (aY p q) n.name a:=by simpa using this
        obtain⟨c,hc,hk4,htc,hf⟩:=nbb hp hq h0
        rw[htc]
        exact⟨hk4,by rw[hf]; omega⟩
       have hid:=nbd (n.attrs.map λx=>(bf p q (aY p q) n.name x).toNat)
       have hsn:∃ f:Node,True:=⟨n,trivial⟩
       obtain⟨_,l2⟩:=Gj (L:=aY p q) (dz (n.attrs.map λx=>(bf p q (aY p q) n.name x).toNat)) λz hzz=>by
        obtain⟨a,ha',rfl⟩:=List.mem_map.1 ((bo _).mem_iff.1 hzz)
        have:=List.all_eq_true.1 hall a ha'
        obtain⟨c,hc,hh⟩:=C3 (by simpa using this)
        exact⟨c,hc,(wD.1 hh).1⟩
       generalize dz (n.attrs.map λx=>(bf p q (aY p q) n.name x).toNat)=zs at *
       have l1:=nbc (L:=aY p q) zs λz hzz=>(hz z hzz).1
       refine⟨?_,?_⟩
       ·rw[im]
        simp only[Tr.label,Tr.kids,hk,htold]
        rw[if_neg (by omega),if_neg (by omega),if_pos hb3.1]
        simp only[O6,zd,l1,l2,k2,List.nil_append,List.append_nil,pS]
        have e1:mS (aY p q) (bf p q (aY p q)) ⟨1,b.element,zs.map λz=>⟨(fV (aY p q) z).name,(fV (aY p q) z).value⟩,[],br (aY p q) vs⟩=some ⟨(cD (aY p q) 1 n.name).toNat,zs.map bP++vs⟩:=by
         rw[ov]
         simp only[hb3.2,k1]
         rw[if_neg hpl,if_pos trivial,if_pos]
         ·have e2:(zs.map λz=>(⟨(fV (aY p q) z).name,(fV (aY p q) z).value⟩:Attr)).map (λx=>(bf p q (aY p q) n.name x).toNat)=zs:=by
           rw[List.map_map]
           refine (List.map_congr_left λz hzz=>?_).trans (List.map_id zs)
           simp only[Function.comp,(hz z hzz).2]
           simp
          rw[e2,hid]
         ·rw[List.all_eq_true]
          intro a ha'
          obtain⟨z,hzz,rfl⟩:=List.mem_map.1 ha'
          rw[(hz z hzz).2]
          simp
        rw[e1]
        rfl
       ·simp only[Av,Tr.label,hk,htold]
        rw[if_neg (by omega)]
     ·cases ht
    ·rename_i hk
     cases ht
     have hb12:(n.kind=2∧b.kind=1)∨(n.kind=3∧b.kind=2):=by
      rcases ha.1.1.1 with h | h | h
      ·exact absurd h hk
      ·left; exact⟨h,by simpa[fG,h] using hb2⟩
      ·right; exact⟨h,by simpa[fG,h] using hb2⟩
     have hpp:∀ s,cD (aY p q) n.kind s=cD (aY p q) n.kind n.name:=λs=>by
      have:fG n.kind s=fG n.kind n.name:=by
       funext c
       rcases hb12 with h | h <;> simp[fG,h.1]
      simp only[cD,this]
     refine⟨?_,?_⟩
     ·rw[im]
      simp only[Tr.label,Tr.kids,htold]
      have e1:∀ t a k,mS (aY p q) (bf p q (aY p q)) ⟨n.kind,[],a,t,k⟩=some ⟨(cD (aY p q) n.kind n.name).toNat,[]⟩:=λt a k=>by
       rw[ov]
       simp only[hpp]
       rw[if_neg hpl,if_neg hk]
      rcases hb12 with h | h
      ·rw[if_pos h.2]
       have:=e1 [120] [] []
       rw[h.1] at this
       simp only[pS,this,h.1]
       rfl
      ·rw[if_neg (by omega),if_pos h.2]
       have:=e1 [] [] []
       rw[h.1] at this
       simp only[pS,this,h.1]
       rfl
     ·simp only[Av,Tr.label,htold]
      rw[if_neg (by omega)]
theorem nbg:∀ s:Str,(∀ b∈s,14<=b.toNat∧b.toNat < 128)->right s=true
 | [],_=>by rw[Py]; exact Sa
 | b :: t,h=>by
  have hb:=h b (by simp)
  have ih:=nbg t λc hc=>h c (by simp[hc])
  rw[Py] at ih ⊢
  have e:one (b :: t)=(b.toNat,1):=by simp[one,hb.2]
  rw[JU,e,if_neg (by simp only; omega)]
  simp only[List.drop_succ_cons,List.drop_zero,ih,Bool.and_true,Bool.and_eq_true,Bool.not_eq_true',decide_eq_false_iff_not]
  omega
theorem nbh{b:UInt8} (h:fE b=true):(14<=b.toNat∧b.toNat < 128)∧lx b=false:=by
 simp only[fE,small,Bool.or_eq_true,Bool.and_eq_true,decide_eq_true_eq] at h
 simp only[lx,Bool.or_eq_false_iff,Bool.and_eq_false_iff,decide_eq_false_iff_not]
 omega
theorem nbi{s:Str} (h:∀ b∈s,fE b=true) (hp:0 < s.length):gC s=true:=by
 have hr:=nbg s λb hb=>(nbh (h b hb)).1
 unfold right at hr
 simp only[gC,hr,hp,decide_true,Bool.and_true,List.all_eq_true]
 intro b hb
 rw[(nbh (h b hb)).2]; rfl
theorem nbj{s:Str} (h:named s=true):0 < s.length∧∀ b∈s,fE b=true:=by
 cases s with
 | nil=>cases h
 | cons b t =>
  simp only[named,Bool.and_eq_true,List.all_eq_true] at h
  exact⟨by simp,h.2⟩
theorem nbk:LX.all (λb=>fE b)=true:=by decide
theorem nbl{C:List Str} (hC:okC C) (hl:C.length<=37){c:Str} (hc:c∈C):gC (aG C c)=true:=by
 have hp:=hC c hc
 simp only[plain,Bool.and_eq_true] at hp
 obtain⟨h1,h2⟩:=nbj hp.1
 cases hm:bA c
 ·rw[ZL hm]
  rw[IR hm] at h1 h2
  exact nbi h2 h1
 ·obtain⟨_,t,e,_,ht⟩:=yq hC hl hm
  obtain⟨_,h4,_⟩:=kL hm
  rw[h4] at h1 h2
  rw[e]
  refine nbi (λb hb=>?_) (by rw[List.length_append]; simp only at h1; omega)
  rcases List.mem_append.1 hb with hb | hb
  ·exact h2 b hb
  ·exact List.all_eq_true.1 nbk b (ht b hb)
theorem nbm{p q:Policy} (hp:RulesOK p)(hq:RulesOK q){b:Label} (h:b∈aY p q) (hk:b.kind=4):gC b.name=true∧right b.value=true:=by
 obtain⟨c,hc,e,_,hs,_⟩:=JS hp hq h hk
 rw[e]
 refine⟨nbl (yv hp hq b.element) (Bz hp hq b.element) hc,nbg _ λx hx=>?_⟩
 have:=hs x hx
 omega
theorem nbn:∀ (l pre:List Attr),(∀ a∈l,gC a.name=true)->(l.map Attr.name).Nodup->(∀ a∈l,CP pre a.name=false)->r4 pre l=0
 | [],_,_,_,_=>rfl
 | a :: l,pre,h1,h2,h3=>by
  simp only[List.map_cons,List.nodup_cons] at h2
  rw[r4,if_pos (h1 a (by simp)),if_neg (by simp[h3 a (by simp)])]
  refine nbn l _ (λx hx=>h1 x (by simp[hx])) h2.2 λx hx=>?_
  have hne:a.name≠x.name:=λe=>h2.1 (by rw[e]; exact List.mem_map_of_mem hx)
  have h4:=h3 x (by simp[hx])
  rw[afK] at h4 ⊢
  cases h5:(fT (pre++[a]) x.name).isSome
  ·rfl
  ·obtain⟨y,hy,e⟩:=afL.1 h5
   rcases List.mem_append.1 hy with hy | hy
   ·have:=afL.2 ⟨y,hy,e⟩
    rw[this] at h4; cases h4
   ·simp at hy; subst hy; exact absurd e hne
theorem nbo:∀ l:List Attr,(∀ a∈l,right a.value=true)->gH l=true
 | [],_=>rfl
 | a :: l,h=>by simp only[gH,h a (by simp),nbo l λx hx=>h x (by simp[hx]),Bool.and_self]
theorem nbp{par:Str}{x y:Node} (hk:x.kind=y.kind) (hn:x.name=y.name) (ht:x.kind=2->x.text=[120]) (h:iv par y=true):iv par x=true:=by
 unfold iv at *
 split
 ·rename_i hv; rw[if_pos hv] at h; cases h
 ·rename_i hv
  rw[if_neg hv] at h
  split
  ·rename_i hr
   rw[if_pos hr] at h
   simp only[Bool.and_eq_true,decide_eq_true_eq] at h
   have h2:x.kind=2:=hk.trans h.1
   rw[ht h2,h2]
   simp only[raw,Bool.or_eq_true,decide_eq_true_eq] at hr
   rcases hr with rfl | rfl <;> decide
  ·rename_i hr
   rw[if_neg hr] at h
   rw[hk,hn]; exact h
def nbq (n:Node):Int × Str:=(n.kind,n.name)
theorem nbr{par:Str}{a b:List Node} (h:a.map nbq=b.map nbq) (ht:∀ x∈a,x.kind=2->x.text=[120]) (hb:b.all (iv par)=true):a.all (iv par)=true:=by
 rw[List.all_eq_true] at hb ⊢
 intro x hx
 have:nbq x∈b.map nbq:=by rw[<-h]; exact List.mem_map_of_mem hx
 obtain⟨y,hy,e⟩:=List.mem_map.1 this
 simp only[nbq,Prod.mk.injEq] at e
 exact nbp e.1.symm e.2.symm (ht x hx) (hb y hy)
def nbs (n:Node):Prop:=(n.attrs.map Attr.name).Nodup
theorem nbt{p q:Policy} (hp:RulesOK p)(hq:RulesOK q):∀ (l:List Node) (txt:Bool),lW txt l=0->tT l=true->∀ ts,bc (aY p q) (bf p q (aY p q)) l=some ts →
  aq nbs (br (aY p q) ts)->(br (aY p q) ts).map nbq=l.map nbq∧(∀ m∈br (aY p q) ts,m.kind=2->m.text=[120])∧lW txt (br (aY p q) ts)=0∧tT (br (aY p q) ts)=true:=by
 refine aE (λ_ _ _ ts h _=>by simp[bc] at h; subst h; exact⟨rfl,(λ_ h=>by cases h),rfl,rfl⟩) ?_
 intro n l h1 h2 txt hm hall ts h ho
 obtain⟨m1,m2,m3⟩:=ym.1 hm
 simp only[tT,abi,Bool.and_eq_true] at hall
 obtain⟨⟨c1,c2,c3⟩,c4⟩:=hall
 rw[pS] at h
 cases ht:mS (aY p q) (bf p q (aY p q)) n with
 | none=>rw[ht] at h; cases h
 | some t =>
  cases hts:bc (aY p q) (bf p q (aY p q)) l with
  | none=>rw[ht,hts] at h; cases h
  | some us =>
   rw[ht,hts] at h
   simp only[Option.bind_some,Option.map_some,Option.some.injEq] at h
   subst h
   have key:∀ m:Node,F4 (aY p q) t=[m]->m.kind=n.kind->m.name=n.name->(m.kind=2->m.text=[120])->(nbs m->aq nbs m.kids->gJ m txt=0∧lW false m.kids=0∧(decide (m.kind=3)&&bB sq m.text)=false∧m.kids.all (iv m.name)=true∧tT m.kids=true) →
     (br (aY p q) (t :: us)).map nbq=(n :: l).map nbq∧(∀ m∈br (aY p q) (t :: us),m.kind=2->m.text=[120])∧lW txt (br (aY p q) (t :: us))=0∧tT (br (aY p q) (t :: us))=true:=λm e k1 k2 k3 k4=>by
    have e2:br (aY p q) (t :: us)=m :: br (aY p q) us:=by rw[br,e]; rfl
    rw[e2] at ho ⊢
    simp only[aq,bE] at ho
    obtain⟨i1,i2,i3,i4⟩:=h2 _ m3 c4 us hts ho.2
    obtain⟨j1,j2,j3,j4,j5⟩:=k4 ho.1.1 ho.1.2
    refine⟨?_,?_,?_,?_⟩
    ·simp only[List.map_cons,i1,nbq,k1,k2]
    ·intro x hx hk
     rcases List.mem_cons.1 hx with rfl | hx
     ·exact k3 hk
     ·exact i2 x hx hk
    ·rw[ym]
     exact⟨j1,j2,by rw[k1]; exact i3⟩
    ·simp only[tT,abi,j3,j4,j5,i4,Bool.not_false,Bool.and_self]
   rw[ov] at ht
   split at ht
   ·cases ht
   ·rename_i hpl
    obtain⟨b,hb1,hb2⟩:=iZ (L:=aY p q) (k:=n.kind) (nm:=n.name) (by omega)
    have htold:=BR hb1
    split at ht
    ·rename_i hk
     split at ht
     ·rename_i hall
      split at ht
      ·cases ht
      ·rename_i vs hvs
       cases ht
       rw[hk] at hb2 htold
       have hb3:b.kind=3∧b.element=n.name:=by simpa[fG] using hb2
       have hz:∀ z∈dz (n.attrs.map λx=>(bf p q (aY p q) n.name x).toNat),∃ b∈aY p q,b.kind=4∧fV (aY p q) z=b∧(aY p q)[z]?=some b:=λz hz=>by
        obtain⟨a,ha',rfl⟩:=List.mem_map.1 ((bo _).mem_iff.1 hz)
        have:=List.all_eq_true.1 hall a ha'
        obtain⟨c,hc,hh⟩:=C3 (by simpa using this)
        exact⟨c,List.mem_of_getElem? hc,(wD.1 hh).1,BR hc,hc⟩
       generalize dz (n.attrs.map λx=>(bf p q (aY p q) n.name x).toNat)=zs at *
       have l1:=nbc (L:=aY p q) zs λz hzz=>by obtain⟨c,_,h4,h5,_⟩:=hz z hzz; rw[h5]; exact h4
       obtain⟨_,l2⟩:=Gj (L:=aY p q) zs λz hzz=>by obtain⟨c,_,h4,_,h5⟩:=hz z hzz; exact⟨c,h5,h4⟩
       have hndk:cX (aY p q) vs=[]:=by
        have:=m2
        exact (nbf hp hq n.kids (R0 _ _ m2).1 vs hvs).2
       refine key ⟨1,n.name,zs.map (λz=>⟨(fV (aY p q) z).name,(fV (aY p q) z).value⟩),[],br (aY p q) vs⟩ ?_ hk.symm rfl (λh=>by simp at h) λho1 ho2=>?_
       ·rw[im]
        simp only[Tr.label,Tr.kids,hk,htold]
        rw[if_neg (by omega),if_neg (by omega),if_pos hb3.1]
        simp only[O6,zd,l1,l2,hndk,List.nil_append,List.append_nil,hb3.2]
       ·obtain⟨k1,k2,k3,k4⟩:=h1 false m2 c3 vs hvs ho2
        refine⟨?_,k3,by simp,nbr k1 k2 c2,k4⟩
        have hnm:named n.name=true:=by
         unfold gJ at m1
         rw[if_pos hk,xj] at m1
         split at m1
         ·split at m1
          ·assumption
          ·cases m1
         ·cases m1
        have hat:∀ a∈zs.map (λz=>(⟨(fV (aY p q) z).name,(fV (aY p q) z).value⟩:Attr)),gC a.name=true∧right a.value=true:=λa ha=>by
         obtain⟨z,hzz,rfl⟩:=List.mem_map.1 ha
         obtain⟨c,hc,h4,h5,_⟩:=hz z hzz
         rw[h5]
         exact nbm hp hq hc h4
        simp only[gJ,xj,hnm,if_true]
        rw[if_pos,if_pos]
        ·exact nbo _ λa ha=>(hat a ha).2
        ·exact nbn _ [] (λa ha=>(hat a ha).1) ho1 λa ha=>rfl
     ·cases ht
    ·rename_i hk
     cases ht
     have hkk:(n.kind=2∨n.kind=3)∧n.name=[]∧(n.kind=2->txt=false):=by
      unfold gJ at m1
      rw[if_neg hk] at m1
      split at m1
      ·rename_i h23
       split at m1
       ·rename_i hz
        split at m1
        ·rename_i hr
         exact⟨h23,hz.1,λh=>(hr.2 h).2⟩
        ·cases m1
       ·cases m1
      ·cases m1
     rcases hkk.1 with h | h
     ·have hb3:b.kind=1:=by simpa[fG,h] using hb2
      refine key ⟨2,[],[],[120],[]⟩ ?_ h.symm hkk.2.1.symm (λ_=>rfl) λ_ _=>⟨?_,rfl,rfl,rfl,rfl⟩
      ·rw[im]
       simp only[Tr.label,Tr.kids,htold]
       rw[if_pos hb3]
      ·have hr:right [120]=true:=nbg _ λb hb=>by simp at hb; subst hb; decide
       simp[gJ,hr,hkk.2.2 h]
     ·have hb3:b.kind=2:=by simpa[fG,h] using hb2
      refine key ⟨3,[],[],[],[]⟩ ?_ h.symm hkk.2.1.symm (λh=>by simp at h) λ_ _=>⟨?_,rfl,by decide,rfl,rfl⟩
      ·rw[im]
       simp only[Tr.label,Tr.kids,htold]
       rw[if_neg (by omega),if_pos hb3]
      ·have hr:right []=true:=nbg _ λb hb=>by cases hb
       simp[gJ,hr]
theorem nbu{p q:Policy} (hp:RulesOK p)(hq:RulesOK q){l:List Node} (hs:vu l=true){ts:List Tr} (h:bc (aY p q) (bf p q (aY p q)) l=some ts) (ho:aq nbs (br (aY p q) ts)):vu (br (aY p q) ts)=true:=by
 simp only[vu,may,Bool.and_eq_true] at hs ⊢
 obtain⟨_,_,h3,h4⟩:=nbt hp hq l false (of_decide_eq_true hs.1) hs.2 ts h ho
 exact⟨decide_eq_true h3,h4⟩
theorem nbv{C:List Str} (hC:okC C) (hl:C.length<=37){c:Str} (hc:c∈C):(aG C c).length<=17:=by
 have hp:=hC c hc
 simp only[plain,Bool.and_eq_true,decide_eq_true_eq] at hp
 cases hm:bA c
 ·rw[ZL hm]
  rw[IR hm] at hp
  have:=hp.2
  simp only at this
  omega
 ·obtain⟨_,t,e,h1,_⟩:=yq hC hl hm
  obtain⟨_,h4,_⟩:=kL hm
  rw[h4] at hp
  have:=hp.2
  simp only at this
  rw[e,List.length_append]
  omega
theorem nbw{p q:Policy} (hp:RulesOK p)(hq:RulesOK q){b:Label} (h:b∈aY p q) (hk:b.kind=4):b.name.length<=17:=by
 obtain⟨c,hc,e,_⟩:=JS hp hq h hk
 rw[e]
 exact nbv (yv hp hq b.element) (Bz hp hq b.element) hc
theorem nbx{p q:Policy} (hp:RulesOK p)(hq:RulesOK q){el:Str}{a:Attr}{b:Label} (hb:b∈aY p q) (h:YW p q el a b=true) (ha:bD p el a.name a.value=true):b.value.length<=a.value.length:=by
 obtain⟨h1,h2,h3,h4,h5⟩:=wD.1 h
 subst h2
 obtain⟨_,c,hc,hb'⟩:=afz hb h1
 obtain⟨f1,f2,w,hw,e⟩:=Uq.1 hb'
 have hcell:=abd hp hq b.element (aG (aP p q b.element) c) f1 f2
 rw[hw] at hcell
 have e1:=congrArg Label.name e
 have e3:=congrArg Label.value e
 have e4:=congrArg Label.one e
 have e5:=congrArg Label.two e
 simp only at e1 e3 e4 e5
 have hacc:=ady (s:=a.value) h5
 have:=hcell.2.2.2 a.value (abj hp ha) (by rw[<-e1,hacc.1,<-h3,e4]) (by rw[<-e1,hacc.2,<-h4,e5])
 rw[e3]
 rcases Nat.lt_or_ge a.value.length (bK w).length with hlt | hge
 ·exact absurd (.inl hlt) this
 ·exact hge
def accN (p:Policy) (n:Node):Prop:=n.kind=1->∀ a∈n.attrs,bD p n.name a.name a.value=true
theorem nby (p:Policy):∀ (l:List Node) (par:Str),aq ndC l->qF p par l=true->aq (accN p) l:=by
 refine aE (λ_ _ _=>trivial) ?_
 intro n l h1 h2 par ha h
 simp only[aq,bE] at ha ⊢
 simp only[qF,Bool.and_eq_true] at h
 refine⟨?_,h2 par ha.2 h.2⟩
 have ho:=h.1.2
 rw[Jg] at ho
 by_cases hk:n.kind=1
 ·rw[if_pos hk] at ho
  cases he:aJ p.elements n.name with
  | none=>rw[he] at ho; cases ho
  | some e =>
   rw[he] at ho
   simp only[Bool.and_eq_true,Qk he,List.all_eq_true] at ho
   exact⟨λ_ a hx=>ho.1.1 a hx,h1 _ ha.1.2 ho.2⟩
 ·refine⟨λh=>absurd h hk,?_⟩
  rw[ha.1.1.2.2.1 hk]; trivial
theorem nbz{p q:Policy} (hp:RulesOK p)(hq:RulesOK q):∀ l:List Node,aq ndC l->aq kw l->aq wV l->aq (accN p) l->∀ ts,bc (aY p q) (bf p q (aY p q)) l=some ts →
  (aq kw (br (aY p q) ts)∧aq wV (br (aY p q) ts))∧(br (aY p q) ts).length=l.length∧cP (br (aY p q) ts)<=l.length∧aK (br (aY p q) ts)=aK l:=by
 refine aE (λ_ _ _ _ ts h=>by simp[bc] at h; subst h; exact⟨⟨trivial,trivial⟩,rfl,Nat.le_refl _,rfl⟩) ?_
 intro n l h1 h2 ha hf hw hac ts h
 simp only[aq,bE] at ha hf hw hac
 rw[pS] at h
 cases ht:mS (aY p q) (bf p q (aY p q)) n with
 | none=>rw[ht] at h; cases h
 | some t =>
  cases hts:bc (aY p q) (bf p q (aY p q)) l with
  | none=>rw[ht,hts] at h; cases h
  | some us =>
   rw[ht,hts] at h
   simp only[Option.bind_some,Option.map_some,Option.some.injEq] at h
   subst h
   obtain⟨i1,i2,i3,i4⟩:=h2 ha.2 hf.2 hw.2 hac.2 us hts
   have key:∀ m:Node,F4 (aY p q) t=[m]->kw m->wV m->aq kw m.kids->aq wV m.kids->m.text.length<=1->aK m.kids=aK n.kids →
     (aq kw (br (aY p q) (t :: us))∧aq wV (br (aY p q) (t :: us)))∧(br (aY p q) (t :: us)).length=(n :: l).length∧cP (br (aY p q) (t :: us))<=(n :: l).length∧aK (br (aY p q) (t :: us))=aK (n :: l):=λm e k1 k2 k3 k4 k5 k6=>by
    have e2:br (aY p q) (t :: us)=m :: br (aY p q) us:=by rw[br,e]; rfl
    rw[e2]
    refine⟨⟨?_,?_⟩,by simp[i2],?_,?_⟩
    ·simp only[aq,bE]; exact⟨⟨k1,k3⟩,i1.1⟩
    ·simp only[aq,bE]; exact⟨⟨k2,k4⟩,i1.2⟩
    ·have:cP (m :: br (aY p q) us)=m.text.length+cP (br (aY p q) us):=by simp[cP]
     rw[this,List.length_cons]; omega
    ·simp only[aK,qn,k6,i4]
   rw[ov] at ht
   split at ht
   ·cases ht
   ·rename_i hpl
    obtain⟨b,hb1,hb2⟩:=iZ (L:=aY p q) (k:=n.kind) (nm:=n.name) (by omega)
    have htold:=BR hb1
    split at ht
    ·rename_i hk
     split at ht
     ·rename_i hall
      split at ht
      ·cases ht
      ·rename_i vs hvs
       cases ht
       rw[hk] at hb2 htold
       have hb3:b.kind=3∧b.element=n.name:=by simpa[fG] using hb2
       have hz:∀ z∈dz (n.attrs.map λx=>(bf p q (aY p q) n.name x).toNat),∃ b∈aY p q,b.kind=4∧fV (aY p q) z=b∧(aY p q)[z]?=some b∧b.value.length<=1000:=λz hz=>by
        obtain⟨a,ha',rfl⟩:=List.mem_map.1 ((bo _).mem_iff.1 hz)
        have:=List.all_eq_true.1 hall a ha'
        obtain⟨c,hc,hh⟩:=C3 (by simpa using this)
        have h6:=nbx hp hq (List.mem_of_getElem? hc) hh (hac.1.1 hk a ha')
        have h7:=(hf.1.1.2.2.1 a ha').2
        exact⟨c,List.mem_of_getElem? hc,(wD.1 hh).1,BR hc,hc,by omega⟩
       have hsl:(dz (n.attrs.map λx=>(bf p q (aY p q) n.name x).toNat)).length=n.attrs.length:=by rw[(bo _).length_eq]; simp
       generalize dz (n.attrs.map λx=>(bf p q (aY p q) n.name x).toNat)=zs at *
       have l1:=nbc (L:=aY p q) zs λz hzz=>by obtain⟨c,_,h4,h5,_⟩:=hz z hzz; rw[h5]; exact h4
       obtain⟨_,l2⟩:=Gj (L:=aY p q) zs λz hzz=>by obtain⟨c,_,h4,_,h5,_⟩:=hz z hzz; exact⟨c,h5,h4⟩
       have hndk:cX (aY p q) vs=[]:=(nbf hp hq n.kids ha.1.2 vs hvs).2
       obtain⟨k1,k2,k3,k4⟩:=h1 ha.1.2 hf.1.2 hw.1.2 hac.1.2 vs hvs
       obtain⟨⟨y1,y2,y3,y4,y5⟩,_⟩:=hf.1
       have hw5:n.attrs.length<=5:=hw.1.1
       refine key ⟨1,n.name,zs.map (λz=>⟨(fV (aY p q) z).name,(fV (aY p q) z).value⟩),[],br (aY p q) vs⟩ ?_ ⟨y1,by simp only[List.length_map]; omega,λa hx=>?_,by simp only; omega,by simp only; omega⟩ ?_ k1.1 k1.2 (by simp) k4
       ·rw[im]
        simp only[Tr.label,Tr.kids,hk,htold]
        rw[if_neg (by omega),if_neg (by omega),if_pos hb3.1]
        simp only[O6,zd,l1,l2,hndk,List.nil_append,List.append_nil,hb3.2]
       ·obtain⟨z,hzz,rfl⟩:=List.mem_map.1 hx
        obtain⟨c,hc,h4,h5,_,h7⟩:=hz z hzz
        have:=nbw hp hq hc h4
        rw[h5]
        exact⟨by simp only; omega,h7⟩
       ·simp only[wV,List.length_map]; omega
     ·cases ht
    ·rename_i hk
     cases ht
     have hnk:=ha.1.1.2.2.1 hk
     have hl0:∀ k t,kw ⟨k,[],[],t,[]⟩:=λk t=>⟨by simp,by simp,(λa h=>by cases h),by simp,by simp[cP]⟩
     rcases ha.1.1.1 with h | h | h
     ·exact absurd h hk
     ·have hb3:b.kind=1:=by simpa[fG,h] using hb2
      refine key ⟨2,[],[],[120],[]⟩ ?_ (hl0 _ _) (by simp[wV]) trivial trivial (by simp) (by rw[hnk])
      rw[im]
      simp only[Tr.label,Tr.kids,htold]
      rw[if_pos hb3]
     ·have hb3:b.kind=2:=by simpa[fG,h] using hb2
      refine key ⟨3,[],[],[],[]⟩ ?_ (hl0 _ _) (by simp[wV]) trivial trivial (by simp) (by rw[hnk])
      rw[im]
      simp only[Tr.label,Tr.kids,htold]
      rw[if_neg (by omega),if_pos hb3]
end Go.Abs.F
