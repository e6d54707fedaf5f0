/- Plain: nodes written as a text, and what its token. -/
import Derived.Test.YtedmnakfknbabaaGreatDoorPP3
import Derived.Test.YtedmnakfknbabaaGreatDoorPP2
set_option linter.all false
set_option maxHeartbeats 0
set_option maxRecDepth 100000
open List renaming mem_cons→zAa,length_drop→zAb,map_cons→zAc,not_mem_nil→zAe,cons_append→zAf,nil_append→zAg,mem_append→zAh,drop_left→zAi,append_nil→zAj,reduceReplicate→zBa,append_assoc→zBb,eq_nil_of_length_eq_zero→zBc,drop_succ_cons→zBd,map_congr_left→zBe,take_left→zBf,getElem?_append_right→zBg,getElem?_append_left→zBh,tail_cons→zBi,length_pos_iff→zBj,map_append→zCb,drop_zero→zCe,length_cons→zCf,mem_map_of_mem→zCg,foldl_cons→zCh,map_nil→zCi,mem_of_getElem?→zDa,length_nil→zDb,nodup_cons→zDc,take_append_of_le_length→zDd,foldl_nil→zDe,getElem?_eq_some_iff→zDf,drop_append→zDg,all_eq_true→zDh,prefix_iff_eq_take→zDi,foldl_append→zEc,nodup_append→zEd,all_cons→zEf,any_cons→zEg,map_map→zEh,range'→zFa,foldl→zFb
open Bool renaming and_eq_true→zAd,not_eq_true'→zCc,or_eq_true→zCj,and_eq_false_iff→zDj,or_eq_false_iff→zEa
open Option renaming toList→zCa,not_isSome→zEb,some→zEj
open Nat renaming add_zero→zCd,le_refl→zEe
open UInt8 renaming ofNat→zEi
open Option.some renaming injEq→zFc
section
namespace Go.Abs.F
open Go.Proofs
attribute [-simp] getElem?_pos zEb zEh
def aW:List Attr->Str
 |[]=>[]
 |a::l=>32::(a.name++61::34::(bN true a.value++34::aW l))
def bL(nm:Str)(l:List Attr):Str:=60::(nm++(aW l++[62]))
def aJ(nm:Str):Str:=60::47::(nm++[62])
def oS(t:Str):Str:=60::33::45::45::(t++[45,45,62])
mutual
def wrN(rw:Bool):Node->Str
 |⟨k,nm,a,t,ks⟩=>if k=1 then(if ew nm then bL nm a else bL nm a++(wrL (raw nm) ks++aJ nm))else if k=2 then(if rw then t else bN false t)else if k=3 then oS t else[]
def wrL(rw:Bool):List Node->Str
 |[]=>[]
 |n::l=>wrN rw n++wrL rw l
end
mutual
def tkN:Node->List Tok
 |⟨k,nm,a,t,ks⟩=>if k=1 then⟨1,nm,a,[]⟩::(if ew nm then[]else tkL ks++[⟨2,nm,[],[]⟩])else if k=2 then[⟨3,[],[],t⟩]else[⟨4,[],[],t⟩]
def tkL:List Node->List Tok
 |[]=>[]
 |n::l=>tkN n++tkL l
end
theorem If:∀(n f g:Nat)(s:Str),s.length<=n->s.length<f->s.length<g->fd f s=fd g s:=by
 intro n
 induction n with
 |zero=>
   intro f g s h1 h2 h3;have:s=[]:=zBc (by omega)
   subst this;cases f with
   |zero=>omega
   |succ f=>cases g with
     |zero=>omega
     |succ g=>simp[fd]
 |succ n ih=>
   intro f g s h1 h2 h3;cases f with
   |zero=>omega
   |succ f=>cases g with
     |zero=>omega
     |succ g=>
       simp only[fd];by_cases hne:s=[]
       ·rw[if_pos hne,if_pos hne]
       ·rw[if_neg hne,if_neg hne]
        have hl:0<s.length:=zBj.2 hne;by_cases h0:(cm s).2=0
        ·have:=kE hne (uh h0)
         rw[if_pos h0,if_pos h0,ih f g _ (by rw[zAb];omega) (by rw[zAb];omega) (by rw[zAb];omega)]
        ·rw[if_neg h0,if_neg h0,ih f g _ (by rw[zAb];omega) (by rw[zAb];omega) (by rw[zAb];omega),
          ih f g _ (by rw[zAb,zAb];omega) (by rw[zAb,zAb];omega) (by rw[zAb,zAb];omega)]
theorem lV{f:Nat}{s:Str}(h:s.length<f):fd f s=aO s:=If s.length f (s.length+1) s (zEe _) h (Nat.lt_succ_self _)
theorem ue:aO []=[]:=rfl
theorem nR{s:Str}(hne:s≠[])(h:aA s=false):aO s=⟨3,[],[],i7 (s.take (aZ s))⟩::aO (s.drop (aZ s)):=by
 have h0:(cm s).2=0:=by unfold cm;rw[if_pos h]
 have:=kE hne h;have hl:0<s.length:=zBj.2 hne;unfold aO;simp only[fd];rw[if_neg hne,if_pos h0,lV (by rw[zAb];omega)]
 rfl
theorem xB{s:Str}(hne:s≠[]){k:Nat}{t:Tok}(h:cm s=(t,k))(hk:0<k)(ht:t.kind=0):aO s=aO (s.drop k):=by
 have hl:0<s.length:=zBj.2 hne
 show fd (s.length+1) s=_
 simp only[fd,h];rw[if_neg hne,if_neg (by omega),if_pos ht,lV (by rw[zAb];omega)]
theorem jU{s:Str}(hne:s≠[]){k:Nat}{t:Tok}(h:cm s=(t,k))(hk:0<k)(ht:t.kind≠0)(hr:¬(t.kind=1/\raw t.name=true)):aO s=t::aO (s.drop k):=by
 have hl:0<s.length:=zBj.2 hne
 show fd (s.length+1) s=_
 simp only[fd,h];rw[if_neg hne,if_neg (by omega),if_neg ht,if_neg hr,lV (by rw[zAb];omega)]
theorem ud{s:Str}(hne:s≠[]){k:Nat}{t:Tok}(h:cm s=(t,k))(hk:0<k)(ht:t.kind=1)(hr:raw t.name=true):
 aO s=t::(if eo (s.drop k) t.name=0 then aO (s.drop k)else⟨3,[],[],(s.drop k).take (eo (s.drop k) t.name)⟩::aO ((s.drop k).drop (eo (s.drop k) t.name))):=by
 have hl:0<s.length:=zBj.2 hne
 show fd (s.length+1) s=_
 simp only[fd,h];rw[if_neg hne,if_neg (by omega),if_neg (by omega),if_pos ⟨ht,hr⟩,lV (by rw[zAb];omega),lV (by rw[zAb,zAb];omega)]
theorem m5(u:Str)(c:UInt8)(v:Str):(u++c::v)[u.length]?=some c:=by
 rw[zBg (zEe _),Nat.sub_self];rfl
theorem Pg(u:Str)(b c:UInt8)(v:Str):(u++b::c::v)[u.length+1]?=some c:=by
 rw[zBg (by omega),show u.length+1-u.length=1 by omega]
 rfl
theorem MC(u:Str)(b c:UInt8)(v:Str):(u++b::c::v).drop (u.length+1+1)=v:=by
 rw[zDg,List.drop_eq_nil_of_le (by omega),show u.length+1+1-u.length=2 by omega]
 rfl
theorem lY{p:Nat->Bool}:∀{u:Str}(v:Str),(∀b∈u,p b.toNat=true)->ai p (u++v)=u.length+ai p v
 |[],v,_=>by simp
 |b::u,v,h=>by
   rw[zAf,bJ,if_pos (h b (by simp)),lY v (fun x hx=>h x (by simp[hx])),zCf]
   omega
theorem dF{p:Nat->Bool}{b:UInt8}{t:Str}(h:p b.toNat=false):ai p (b::t)=0:=by rw[bJ,if_neg (by simp[h])]
theorem ik{nm:Str}(h:named nm=true):∀b∈nm,(97<=b.toNat/\b.toNat<=122)\/(48<=b.toNat/\b.toNat<=57)\/b.toNat=45:=by
 intro b hb;cases nm with
 |nil=>cases hb
 |cons c t=>
   simp only[named,zAd,zDh]at h;have:=h.2 b hb;simp only[cG,js,zCj,zAd,decide_eq_true_eq]at this;omega
theorem il{nm:Str}(h:named nm=true):∃b t,nm=b::t/\97<=b.toNat/\b.toNat<=122:=by
 cases nm with
 |nil=>simp[named]at h
 |cons c t=>
   simp only[named,zAd,js,decide_eq_true_eq]at h;exact⟨c,t,rfl,h.1⟩
theorem ku{b:UInt8}(h:¬(65<=b.toNat/\b.toNat<=90)):aH b=b:=by unfold aH;rw[if_neg h]
theorem xj:∀{s:Str},(∀b∈s,¬(65<=b.toNat/\b.toNat<=90))->s.map aH=s
 |[],_=>rfl
 |b::s,h=>by rw[zAc,ku (h b (by simp)),xj (fun x hx=>h x (by simp[hx]))]
theorem io{nm:Str}(h:named nm=true):nm.map aH=nm:=xj fun b hb=>by have:=ik h b hb;omega
theorem mD{nm:Str}(h:named nm=true){c:UInt8}(R:Str)(hc:bU c.toNat=false):br (nm++c::R)=nm.length:=by
 obtain⟨b,t,e,h1,h2⟩:=il h;have hl:bB b.toNat=true:=by simp[bB];omega
 have e2:br (nm++c::R)=ai bU (nm++c::R):=by
  rw[e];simp only[zAf,br,if_pos hl]
 rw[e2,lY _ (fun x hx=>?_),dF hc,zCd];have:=ik h x hx;simp only[bU,bB,zCj,zAd,decide_eq_true_eq];omega
theorem Jt(v:Bool)(c:UInt8):∀b∈p7 v c,b.toNat≠60/\(v=true->b.toNat≠34):=by
 intro b hb;unfold p7 at hb;split at hb
 ·simp only[zAa,zAe,or_false]at hb
  rcases hb with rfl|rfl|rfl|rfl|rfl<;>simp
 ·split at hb
  ·simp only[zAa,zAe,or_false]at hb
   rcases hb with rfl|rfl|rfl|rfl<;>simp
  ·split at hb
   ·simp only[zAa,zAe,or_false]at hb
    rcases hb with rfl|rfl|rfl|rfl<;>simp
   ·split at hb
    ·simp only[zAa,zAe,or_false]at hb
     rcases hb with rfl|rfl|rfl|rfl|rfl|rfl<;>simp
    ·simp only[zAa,zAe,or_false]at hb
     subst hb;rename_i h1 h2 h3 h4;exact⟨h2,fun hv hb=>h4 ⟨hb,hv⟩⟩
theorem rO(v:Bool):∀(t:Str),∀b∈bN v t,b.toNat≠60/\(v=true->b.toNat≠34)
 |[],b,hb=>by simp[bN]at hb
 |c::t,b,hb=>by
   simp only[bN,zAh]at hb;exact hb.elim (Jt v c b) (rO v t b)
theorem KD(v:Bool)(c:UInt8):p7 v c≠[]:=by
 unfold p7;split
 ·simp
 ·split
  ·simp
  ·split
   ·simp
   ·split<;>simp
theorem y8(v:Bool):∀t:Str,i7 (bN v t)=t
 |[]=>rfl
 |c::t=>by
   have ih:=y8 v t;have u8:∀k:Nat,k<256->c.toNat=k->c=zEi k:=fun k hk e=>UInt8.toNat_inj.1 (by simp[Nat.mod_eq_of_lt hk,e])
   have b38:aw 38=[38]:=by decide
   have b60:aw 60=[60]:=by decide
   have b62:aw 62=[62]:=by decide
   have b34:aw 34=[34]:=by decide
   simp only[bN];unfold p7;split
   ·rename_i h
    rw[u8 38 (by decide) h]
    have hr:∀u:Str,ic (38::97::109::112::59::u)=(38,5):=fun u=>by simp[ic,bq,goN,gV,ns]
    simp only[zAf,zAg];rw[fV,if_pos (by decide),hr,if_neg (by simp)]
    simp only[zBd,zCe,ih,b38];rfl
   ·split
    ·rename_i h0 h
     rw[u8 60 (by decide) h]
     have hr:∀u:Str,ic (38::108::116::59::u)=(60,4):=fun u=>by simp[ic,bq,goN,gV,ns]
     simp only[zAf,zAg];rw[fV,if_pos (by decide),hr,if_neg (by simp)]
     simp only[zBd,zCe,ih,b60];rfl
    ·split
     ·rename_i h0 h1 h
      rw[u8 62 (by decide) h]
      have hr:∀u:Str,ic (38::103::116::59::u)=(62,4):=fun u=>by simp[ic,bq,goN,gV,ns]
      simp only[zAf,zAg];rw[fV,if_pos (by decide),hr,if_neg (by simp)]
      simp only[zBd,zCe,ih,b62];rfl
     ·split
      ·rename_i h0 h1 h2 h
       rw[u8 34 (by decide) h.1]
       have hr:∀u:Str,ic (38::113::117::111::116::59::u)=(34,6):=fun u=>by simp[ic,bq,goN,gV,ns]
       simp only[zAf,zAg];rw[fV,if_pos (by decide),hr,if_neg (by simp)]
       simp only[zBd,zCe,ih,b34];rfl
      ·rename_i h0 h1 h2 h3
       simp only[zAf,zAg];rw[fV,if_neg h0,ih]
def Nx1(R:Str):Prop:=R=[]\/aA R=true
theorem Nx1.chars{R:Str}(h:Nx1 R):aZ R=0:=by
 rcases h with h|h
 ·rw[h];rfl
 ·cases R with
  |nil=>rfl
  |cons b t=>simp only[aZ,if_pos h]
theorem E5{t R:Str}(ht:t≠[])(hR:Nx1 R):aO (bN false t++R)=⟨3,[],[],t⟩::aO R:=by
 have hsig:=rO false t;have hd:=y8 false t
 have hne:bN false t≠[]:=by
  cases t with
  |nil=>exact(ht rfl).elim
  |cons c t=>
    simp only[bN];intro h;exact KD false c (List.append_eq_nil_iff.1 h).1
 generalize bN false t=e at *
 have hst:aA (e++R)=false:=by
  cases e with
  |nil=>exact(hne rfl).elim
  |cons b e=>
    cases hs:aA (b::e++R)with
    |false=>rfl
    |true=>
      have h60:=j5 hs;have:=(hsig b (by simp)).1
      rw[h60]at this;exact(this rfl).elim
 have hch:aZ (e++R)=e.length:=by
  rw[lz e.length (e++R) (by simp) (fun i hi h=>?_)]
  ·rw[zAi,hR.chars,zCd]
  ·rw[zBh hi]at h
   exact(hsig 60 (zDa h)).1 rfl
 rw[nR (by simp[hne]) hst,hch,zBf,zAi,hd]
theorem Gh{t R:Str}(h:gg dc t=false):Lib.index (t++45::45::62::R) [45,45,62]=(t.length:Int):=by
 have hno:∀j,j<=t.length->Lib.occAt t [45,45,62] j=false:=by
  rw[rx dc (by simp[dc])]at h
  rcases Lib.index_spec t dc with h1|⟨i,h1,_⟩
  ·exact h1.2
  ·rw[h1]at h
   simp at h
 refine Lib.index_first (by simp) ?_ fun j hj=>?_
 ·simp[Lib.occAt]
 ·cases hoc:Lib.occAt (t++45::45::62::R) [45,45,62] j with
  |false=>rfl
  |true=>
    exfalso;have hpre:[45,45,62]<+:(t++45::45::62::R).drop j:=by simpa[Lib.occAt]using hoc
    have h2:(t++45::45::62::R)[j+2]?=some 62:=by
     obtain⟨u,hu⟩:=hpre;have:=congrArg (fun l=>l[2]?) hu;simpa[List.getElem?_drop]using this.symm
    by_cases hl:j+3<=t.length
    ·have:=hno j (by omega)
     have h3:[45,45,62]<+:t.drop j:=by
      rw[List.drop_append_of_le_length (by omega)]at hpre
      have h4:=zDi.1 hpre;rw[zDd (by simp;omega)]at h4
      exact zDi.2 h4
     have h5:Lib.occAt t [45,45,62] j=true:=by simpa[Lib.occAt]using h3
     rw[this]at h5;cases h5
    ·rw[zBg (by omega)]at h2
     have:j+2-t.length=0\/j+2-t.length=1:=by omega
     rcases this with e|e<;>rw[e]at h2<;>simp at h2
theorem xD{t R:Str}(h:gg dc t=false):aO (oS t++R)=⟨4,[],[],t⟩::aO R:=by
 have hi:=Gh (R:=R) h;have e:oS t++R=60::33::45::45::(t++45::45::62::R):=by simp[oS]
 have htag:cm (oS t++R)=(⟨4,[],[],t⟩,t.length+7):=by
  rw[e];unfold cm;rw[if_neg (by simp[aA]),if_neg (by simp),if_pos (by simp)]
  unfold oT;rw[if_pos (by simp[bq])]
  unfold rT;simp only[zBd,zCe,hi];rw[if_neg (by omega)]
  simp;omega
 rw[jU (by simp[oS]) htag (by omega) (by simp) (by simp)]
 rw[show t.length+7=(oS t).length by simp[oS],zAi]
theorem sK{c:UInt8}:∀{u:Str}(v:Str),(∀b∈u,b≠c)->Lib.indexByte (u++c::v) c=(u.length:Int)
 |[],v,_=>by simp[Lib.indexByte]
 |b::u,v,h=>by
   have ih:=sK v (fun x hx=>h x (List.mem_cons_of_mem b hx));have hb:=h b (by simp)
   simp only[zAf,Lib.indexByte,ih];rw[if_neg (by simpa using hb),if_neg (by simp<;>omega)]
   simp
theorem mC{nm R:Str}(h:named nm=true):aO (aJ nm++R)=⟨2,nm,[],[]⟩::aO R:=by
 have e:aJ nm++R=60::47::(nm++62::R):=by simp[aJ]
 have ht:br (nm++62::R)=nm.length:=mD h R (by decide)
 have hpos:0<nm.length:=by obtain⟨b,t,rfl,_⟩:=il h;simp
 have hix:Lib.indexByte (60::47::(nm++62::R)) 62=((nm.length+2:Nat):Int):=by
  have:=sK (c:=62) (u:=60::47::nm) R (fun b hb=>by
   simp only[zAa]at hb;rcases hb with rfl|rfl|hb
   ·decide
   ·decide
   ·have:=ik h b hb
    intro hh;rw[hh]at this;simp at this)
  rw[zAf,zAf]at this;rw[this];rfl
 have htag:cm (aJ nm++R)=(⟨2,nm,[],[]⟩,nm.length+3):=by
  rw[e];unfold cm;rw[if_neg (by simp[aA]),if_pos (by simp)]
  unfold tp;simp only[zBd,zCe,ht,hix];rw[if_neg (by omega),if_neg (by omega),zBf,io h]
  simp;omega
 rw[jU (by simp[aJ]) htag (by omega) (by simp) (by simp)]
 rw[show nm.length+3=(aJ nm).length by simp[aJ],zAi]
theorem nG{s:Str}(h:aU s=true):(∀b∈s,¬(65<=b.toNat/\b.toNat<=90)/\aQ b.toNat=true)/\∃b t,s=b::t:=by
 simp only[aU,zAd,zDh,decide_eq_true_eq]at h;refine⟨fun b hb=>?_,?_⟩
 ·have:=h.1 b hb
  simp only[dJ,zCc,zEa,zDj,decide_eq_false_iff_not]at this;simp only[aQ,bd,zAd,zCc,zEa,decide_eq_false_iff_not];omega
 ·cases s with
  |nil=>simp at h
  |cons b t=>exact⟨b,t,rfl⟩
theorem PY{a:Attr}(h:aU a.name=true)(R:Str):eP (a.name++61::34::(bN true a.value++34::R))=(a,a.name.length+(bN true a.value).length+3):=by
 obtain⟨h1,_⟩:=nG h;obtain⟨nm,v⟩:=a;simp only at h h1⊢;have hsig:=rO true v;have hd:=y8 true v;generalize bN true v=e at *
 have s1:ai aQ (nm++61::34::(e++34::R))=nm.length:=by
  rw[lY _ (fun b hb=>(h1 b hb).2),dF (by decide),zCd]
 have s2:ai bd (61::34::(e++34::R))=0:=dF (by decide)
 have s3:ai bd (34::(e++34::R))=0:=dF (by decide)
 have s4:ai (cJ 34) (e++34::R)=e.length:=by
  rw[lY _ (fun b hb=>by simpa[cJ]using(hsig b hb).2 rfl),dF (by decide),zCd]
 have d1:(nm++61::34::(e++34::R)).drop nm.length=61::34::(e++34::R):=zAi;have d2:(nm++61::34::(e++34::R)).drop (nm.length+1)=34::(e++34::R):=by rw[zDg];simp
 have d3:(nm++61::34::(e++34::R)).drop (nm.length+1+1)=e++34::R:=MC _ _ _ _;have g1:(nm++61::34::(e++34::R))[nm.length]?=some 61:=m5 _ _ _;have g2:(nm++61::34::(e++34::R))[nm.length+1]?=some 34:=Pg _ _ _ _;unfold eP;simp only[s1,d1,s2,zCd,d2,s3];rw[if_pos g1,zBf,xj (fun b hb=>(h1 b hb).1)];unfold xv;rw[g2];simp only;rw[if_pos (by decide)]
 have q34:(34:UInt8).toNat=34:=rfl;rw[q34];simp only[d3,s4];rw[if_neg (by simp;omega),zBf,hd]
 simp;omega
theorem zx:∀(a:List Attr)(pre R:Str)(l:List Attr)(f:Nat),a.length<f->dU l a=0->my f (pre++(aW a++62::R)) pre.length l=some (l++a,pre.length+(aW a).length+1)
 |[],pre,R,l,f,hf,hd=>by
   cases f with
   |zero=>omega
   |succ f=>
     have s0:ai bZ (62::R)=0:=dF (by decide)
     simp only[aW,zAg,my,zAi,s0,zCd];have:(pre++62::R)[pre.length]?=some 62:=m5 _ _ _;rw[this];simp
 |a::al,pre,R,l,f,hf,hd=>by
   cases f with
   |zero=>omega
   |succ f=>
     simp only[dU]at hd;by_cases h1:aU a.name=true
     ·rw[if_pos h1]at hd
      by_cases h2:kq l a.name=true
      ·rw[if_pos h2]at hd;simp at hd
      ·rw[if_neg h2]at hd
       obtain⟨hs,b,t,hbt⟩:=nG h1;have hb:=(hs b (by rw[hbt];simp)).2
       have hbs:bZ b.toNat=false:=by
        simp only[aQ,zAd,zCc,decide_eq_false_iff_not]at hb;simp[bZ,hb.1.1.1,hb.1.1.2,hb.2]
       have hb62:¬b.toNat=62:=by
        simp only[aQ,zAd,zCc,decide_eq_false_iff_not]at hb;exact hb.1.2
       have hat:=PY h1 (aW al++62::R);have key:pre++(aW (a::al)++62::R)=pre++32::(a.name++61::34::(bN true a.value++34::(aW al++62::R))):=by simp[aW]
       rw[key]
       have s0:ai bZ (32::(a.name++61::34::(bN true a.value++34::(aW al++62::R))))=1:=by
        rw[bJ,if_pos (by decide),hbt,zAf,dF hbs]
       have g:(pre++32::(a.name++61::34::(bN true a.value++34::(aW al++62::R))))[pre.length+1]?=some b:=by
        rw[zBg (by omega),hbt]
        simp
       have d:(pre++32::(a.name++61::34::(bN true a.value++34::(aW al++62::R)))).drop (pre.length+1)=a.name++61::34::(bN true a.value++34::(aW al++62::R)):=by
        rw[zDg];simp
       simp only[my,zAi,s0,g];rw[if_neg hb62];simp only[d,hat];rw[if_neg h2];have ih:=zx al (pre++32::(a.name++61::34::(bN true a.value++[34]))) R (l++[a]) f (by simp at hf;omega) hd
       have e1:pre++32::(a.name++61::34::(bN true a.value++[34]))++(aW al++62::R)=pre++32::(a.name++61::34::(bN true a.value++34::(aW al++62::R))):=by simp
       have e2:(pre++32::(a.name++61::34::(bN true a.value++[34]))).length=pre.length+1+(a.name.length+(bN true a.value).length+3):=by simp;omega
       rw[e1,e2]at ih;rw[ih];simp[aW];omega
     ·rw[if_neg h1]at hd;simp at hd
theorem rZ:∀a:List Attr,a.length<=(aW a).length
 |[]=>by simp
 |a::l=>by have:=rZ l;simp[aW];omega
theorem Bo{nm R:Str}{a:List Attr}(h:named nm=true)(hd:dU [] a=0):cm (bL nm a++R)=(⟨1,nm,a,[]⟩,(bL nm a).length):=by
 have e:bL nm a++R=(60::nm)++(aW a++62::R):=by simp[bL]
 obtain⟨b,t,hbt,h1,h2⟩:=il h
 have hst:aA (bL nm a++R)=true:=by
  rw[e,hbt];simp[aA,bB];omega
 have g1:(bL nm a++R)[1]?=some b:=by rw[e,hbt];simp
 have u8:∀k:Nat,k<97->b≠zEi k:=fun k hk e=>by
  rw[e]at h1;simp at h1;omega
 unfold cm
 rw[if_neg (by simp[hst]),g1,if_neg (by simpa using u8 47 (by decide)),if_neg (by
  intro h;rcases h with h|h
  ·exact u8 33 (by decide) (by simpa using h)
  ·exact u8 63 (by decide) (by simpa using h))]
 unfold u5;have d1:(bL nm a++R).drop 1=nm++(aW a++62::R):=by rw[e];rfl
 have ht:br (nm++(aW a++62::R))=nm.length:=by
  cases a with
  |nil=>exact mD h R (by decide)
  |cons x l=>exact mD h _ (by decide)
 have hbf:=zx a (60::nm) R [] ((bL nm a++R).length+1) (by
  have:=rZ a;rw[e];simp;omega) hd
 rw[<-e]at hbf;simp only[d1,ht];rw[show 1+nm.length=(60::nm).length by simp;omega,hbf]
 simp only[zBf,io h,zAg];simp[bL];omega
theorem vp{nm R:Str}{a:List Attr}(h:named nm=true)(hd:dU [] a=0)(hr:raw nm=false):aO (bL nm a++R)=⟨1,nm,a,[]⟩::aO R:=by
 rw[jU (by simp[bL]) (Bo h hd) (by simp[bL]) (by simp) (by simp[hr]),zAi]
theorem l6{nm:Str}(h:raw nm=true):named nm=true:=by
 simp only[raw,zCj,decide_eq_true_eq]at h;rcases h with rfl|rfl<;>decide
theorem uT{nm s R:Str}(h:3+nm.length<=s.length):ci nm (s++R)=ci nm s:=by
 unfold ci;rw[zDd (by omega),zBh (by omega)]
theorem rP{nm:Str}(hn:nm.map aH=nm)(R:Str):∀(t:Str)(i:Nat),a8 nm i (t++aJ nm)=((i+t.length:Nat):Int)->a8 nm i (t++(aJ nm++R))=((i+t.length:Nat):Int)
 |[],i,_=>by
   have:ci nm (60::47::(nm++62::R))=true:=by
    have g:(nm++62::R)[nm.length]?=some 62:=m5 _ _ _;rw[oO,jV,zBf,hn,g];simp[iG,rQ]
   simp only[zAg,aJ,zAf,zBb,a8,this,zDb,zCd,if_true]
 |b::t,i,h=>by
   simp only[zAf,a8,zCf]at h⊢
   have e:ci nm (b::(t++(aJ nm++R)))=ci nm (b::(t++aJ nm)):=by
    have:=uT (nm:=nm) (s:=b::(t++aJ nm)) (R:=R) (by simp[aJ];omega)
    simpa using this
   rw[e];by_cases hh:ci nm (b::(t++aJ nm))=true
   ·rw[if_pos hh]at h
    omega
   ·rw[if_neg hh]at h⊢
    have ih:=rP hn R t (i+1) (by rw[h];omega)
    rw[ih];omega
theorem xC{nm t R:Str}{a:List Attr}(hr:raw nm=true)(hd:dU [] a=0)(he:ends (t++aJ nm) nm=t.length):
 aO (bL nm a++(t++(aJ nm++R)))=⟨1,nm,a,[]⟩::((if t=[]then[]else[⟨3,[],[],t⟩])++(⟨2,nm,[],[]⟩::aO R)):=by
 have h:=l6 hr
 have hex:ends (t++(aJ nm++R)) nm=t.length:=by
  have:=rP (io h) R t 0 (by simpa[ends]using he)
  simpa[ends]using this
 have hrp:eo (t++(aJ nm++R)) nm=t.length:=by
  unfold eo;rw[hex,if_neg (by omega)]
  simp
 rw[ud (by simp[bL]) (Bo h hd) (by simp[bL]) (by simp) hr,zAi]
 simp only[hrp];by_cases ht:t=[]
 ·subst ht
  simp only[zDb,if_true,zAg,mC h]
 ·rw[if_neg (by simpa using ht),if_neg ht,zBf,zAi,mC h]
  rfl
theorem Ih(n:Node):tkN n=if n.kind=1 then⟨1,n.name,n.attrs,[]⟩::(if ew n.name then[]else tkL n.kids++[⟨2,n.name,[],[]⟩])else if n.kind=2 then[⟨3,[],[],n.text⟩]else[⟨4,[],[],n.text⟩]:=by cases n;simp[tkN]
theorem qO(rw:Bool)(n:Node):wrN rw n=if n.kind=1 then(if ew n.name then bL n.name n.attrs else bL n.name n.attrs++(wrL (raw n.name) n.kids++aJ n.name))else if n.kind=2 then(if rw then n.text else bN false n.text)else if n.kind=3 then oS n.text else[]:=by cases n;simp[wrN]
theorem ii{n:Node}{b:Bool}(h:b5 n b=0):(n.kind=1/\n.text=[]/\named n.name=true/\dU [] n.attrs=0/\bf n.attrs=true)\/((n.kind=2\/n.kind=3)/\n.name=[]/\n.attrs=[]/\n.kids=[]/\right n.text=true/\(n.kind=2->n.text≠[]/\b=false)):=by
 unfold b5 at h;split at h
 ·rename_i h1
  unfold gL at h;split at h
  ·rename_i h2
   split at h
   ·rename_i h3
    split at h
    ·rename_i h4
     split at h
     ·exact .inl ⟨h1,h2,h3,h4,by assumption⟩
     ·simp at h
    ·rename_i h4;exact(h4 h).elim
   ·simp at h
  ·simp at h
 ·split at h
  ·rename_i h1
   split at h
   ·rename_i h2
    split at h
    ·rename_i h3
     exact .inr ⟨h1,h2.1,h2.2.1,h2.2.2,h3.1,h3.2⟩
    ·simp at h
   ·simp at h
  ·simp at h
theorem dy{b:Bool}{n:Node}{l:List Node}(h:cK b (n::l)=0):b5 n b=0/\cK false n.kids=0/\cK (decide (n.kind=2)) l=0:=by
 simp only[cK,xh]at h;split at h
 ·rename_i h1
  split at h
  ·rename_i h2;exact⟨h1,h2,h⟩
  ·rename_i h2;exact(h2 h).elim
 ·rename_i h1;exact(h1 h).elim
theorem vd{n:Node}{l:List Node}(h:dQ (n::l)=true):(n.kind=3->gg dc n.text=false)/\n.kids.all (bw n.name)=true/\dQ n.kids=true/\dQ l=true:=by
 simp only[dQ,xm,zAd,zCc,zDj,decide_eq_false_iff_not]at h;obtain⟨⟨h1,h2,h3⟩,h4⟩:=h;refine⟨fun e=>?_,h2,h3,h4⟩;rcases h1 with h1|h1
 ·exact(h1 e).elim
 ·exact h1
theorem sA{nm R:Str}{a:List Attr}(h:named nm=true):aA (bL nm a++R)=true:=by
 obtain⟨b,t,hbt,h1,h2⟩:=il h;rw[hbt];simp[bL,aA,bB];omega
theorem Nx1.after{l:List Node}{R:Str}(hm:cK true l=0)(hR:Nx1 R):Nx1 (wrL false l++R):=by
 cases l with
 |nil=>simpa[wrL]using hR
 |cons n l=>
   obtain⟨h1,_,_⟩:=dy hm;right;simp only[wrL,zBb,qO];rcases ii h1 with⟨hk,_,hn,_⟩|⟨hk,_,_,_,_,h2⟩
   ·rw[if_pos hk]
    split
    ·exact sA hn
    ·rw[zBb];exact sA hn
   ·rcases hk with hk|hk
    ·have:=(h2 hk).2;cases this
    ·rw[hk,if_neg (by decide),if_neg (by decide),if_pos rfl]
     simp[oS,aA]
theorem MJ(nm R:Str):Nx1 (aJ nm++R):=.inr (by simp[aJ,aA])
theorem Ig:∀(l:List Node)(b:Bool)(R:Str),cK b l=0->dQ l=true->Nx1 R->aO (wrL false l++R)=tkL l++aO R:=by
 refine aC (p:=fun l=>∀(b:Bool)(R:Str),cK b l=0->dQ l=true->Nx1 R->aO (wrL false l++R)=tkL l++aO R) ?_ ?_
 ·intro b R _ _ _
  simp[wrL,tkL]
 ·intro n l ihk ihl b R hm ha hR
  obtain⟨h1,h2,h3⟩:=dy hm;obtain⟨a1,a2,a3,a4⟩:=vd ha;have ihl':=ihl _ R h3 a4 hR;simp only[wrL,tkL,zBb,qO,Ih];rcases ii h1 with⟨hk,_,hn,hd,_⟩|⟨hk,_,_,_,_,h5⟩
  ·rw[if_pos hk,if_pos hk]
   by_cases hv:ew n.name=true
   ·have hr:raw n.name=false:=by
     simp only[ew,zCj,decide_eq_true_eq]at hv;rcases hv with e|e|e|e|e<;>rw[e]<;>decide
    rw[if_pos hv,if_pos hv,vp hn hd hr,ihl'];rfl
   ·rw[if_neg hv,if_neg hv]
    by_cases hr:raw n.name=true
    ·have hkids:n.kids=[]\/∃x,n.kids=[x]/\x.kind=2/\x.text≠[]/\ends (x.text++aJ n.name) n.name=x.text.length:=by
      have hf:∀y,bw n.name y=true->y.kind=2/\ends (y.text++aJ n.name) n.name=y.text.length:=fun y hy=>by
       unfold bw at hy;rw[if_neg hv,if_pos hr]at hy;simp only[zAd,decide_eq_true_eq]at hy;exact⟨hy.1,by simpa[aJ]using hy.2⟩
      match hks:n.kids with
      |[]=>exact .inl rfl
      |[x]=>
        rw[hks]at a2 h2;have:=hf x (by simpa using a2)
        obtain⟨k1,_,_⟩:=dy h2;rcases ii k1 with⟨k2,_⟩|⟨_,_,_,_,_,k3⟩
        ·omega
        ·exact .inr ⟨x,rfl,this.1,(k3 this.1).1,this.2⟩
      |x::y::l'=>
        exfalso;rw[hks]at a2 h2;simp only[zEf,zAd]at a2;have f1:=hf x a2.1;have f2:=hf y a2.2.1;obtain⟨_,_,k3⟩:=dy h2;obtain⟨k1,_,_⟩:=dy k3;rcases ii k1 with⟨k2,_⟩|⟨_,_,_,_,_,k4⟩
        ·omega
        ·have:=(k4 f2.1).2
         simp[f1.1]at this
     rcases hkids with hks|⟨x,hks,x1,x2,x3⟩
     ·have:=xC (t:=[]) (R:=wrL false l++R) hr hd (by
       have:=rP (io hn) [] [] 0
       have he:ci n.name (aJ n.name)=true:=by
        have g:(n.name++[62])[n.name.length]?=some 62:=m5 _ _ _;rw[aJ,oO,jV,zBf,io hn,g];simp[iG,rQ]
       simp only[zAg,zDb,ends];simp only[aJ]at he⊢;simp only[a8,he,if_true])
      rw[hks,hr];simp only[wrL,tkL,zAg,zBb,if_true]at this⊢;rw[this,ihl'];rfl
     ·have:=xC (t:=x.text) (R:=wrL false l++R) hr hd x3
      rw[hks,hr];simp only[wrL,tkL,qO,Ih,x1,zAj,zBb]at this⊢;rw[if_neg x2]at this;simp only[show ¬((2:Int)=1) by decide,if_false,if_true]
      rw[this,ihl'];rfl
    ·have hr':raw n.name=false:=by simpa using hr
     have ihk':=ihk false (aJ n.name++(wrL false l++R)) h2 a3 (MJ _ _);rw[hr'];simp only[zBb];rw[vp hn hd hr',ihk',mC hn,ihl'];simp
  ·rcases hk with hk|hk
   ·have h6:=h5 hk
    rw[hk]at h3;rw[hk,if_neg (by decide),if_pos rfl,if_neg (by decide),if_pos rfl]
    try simp only[Bool.false_eq_true,if_false]
    rw[E5 h6.1 (Nx1.after (by simpa using h3) hR),ihl']
    rfl
   ·rw[hk,if_neg (by decide),if_neg (by decide),if_pos rfl,if_neg (by decide),if_neg (by decide)]
    rw[xD (a1 hk),ihl'];rfl
theorem zH{l:List Node}(h:b6 l=true):aO (wrL false l)=tkL l:=by
 simp only[b6,may,zAd,decide_eq_true_eq]at h;have:=Ig l false [] (of_decide_eq_true h.1) h.2 (.inl rfl);simpa[ue]using this
structure Fr where
 name:Str
 attrs:List Attr
 kids:List Node
structure Zp where
 out:List Node
 opn:List Fr
def Zp.push(z:Zp)(n:Node):Zp:=match z.opn with
 |[]=>⟨z.out++[n],[]⟩
 |f::l=>⟨z.out,⟨f.name,f.attrs,f.kids++[n]⟩::l⟩
def Zp.shut(z:Zp):Zp:=match z.opn with
 |[]=>z
 |f::l=>Zp.push ⟨z.out,l⟩ ⟨1,f.name,f.attrs,[],f.kids⟩
def Zp.closeG(nm:Str):Nat->Zp->Zp
 |0,z=>z
 |k+1,z=>match z.opn with
   |[]=>z
   |f::_=>if dk f.name nm then Zp.closeG nm k z.shut else z
def Zp.closeW(nm:Str)(z:Zp):Zp:=z.closeG nm z.opn.length
def Zp.endG(nm:Str):Nat->Zp->Zp
 |0,z=>z
 |k+1,z=>match z.opn with
   |[]=>z
   |f::_=>if f.name=nm then z.shut else Zp.endG nm k z.shut
def Zp.has(nm:Str)(z:Zp):Bool:=z.opn.any fun f=>decide (f.name=nm)
def Zp.cur(z:Zp):List Node:=match z.opn with
 |[]=>z.out
 |f::_=>f.kids
def Zp.setCur(z:Zp)(l:List Node):Zp:=match z.opn with
 |[]=>⟨l,[]⟩
 |f::fs=>⟨z.out,⟨f.name,f.attrs,l⟩::fs⟩
def fy(b:Bool)(l:List Node):Bool:=match l.getLast? with
 |some n=>decide (n.kind=2)
 |none=>b
def ej(l:List Node)(t:Str):List Node:=match l.getLast? with
 |some n=>if n.kind=2 then l.dropLast++[⟨2,n.name,n.attrs,n.text++t,n.kids⟩]else l++[⟨2,[],[],t,[]⟩]
 |none=>l++[⟨2,[],[],t,[]⟩]
def cA(z:Zp)(t:Tok):Zp:=
 if t.kind=1 then(if ew t.name then(z.closeW t.name).push ⟨1,t.name,t.attrs,[],[]⟩else⟨(z.closeW t.name).out,⟨t.name,t.attrs,[]⟩::(z.closeW t.name).opn⟩)
 else if t.kind=2 then(if z.has t.name then z.endG t.name z.opn.length else z)
 else if t.kind=3 then(if t.text=[]then z else z.setCur (ej z.cur t.text))
 else if t.kind=4 then z.push ⟨3,[],[],t.text,[]⟩
 else z
def Zp.allG:Nat->Zp->Zp
 |0,z=>z
 |k+1,z=>Zp.allG k z.shut
def Zp.all(z:Zp):List Node:=(z.allG z.opn.length).out
def cN(l:List Tok):List Node:=(l.foldl cA ⟨[],[]⟩).all
def Zp.ctx(z:Zp):Str:=match z.opn with
 |[]=>[]
 |f::_=>f.name
theorem rU(x:Str):dk [] x=false:=by simp[dk,bF,sR]
theorem Mt(n:Node):bw [] n=true:=by simp[bw,ew,raw,rU]
theorem El{par:Str}{n:Node}(h:bw par n=true)(hk:n.kind=1):dk par n.name=false:=by
 unfold bw at h;split at h
 ·cases h
 ·split at h
  ·simp[hk]at h
  ·simpa[hk]using h
theorem Zp.push_setCur(z:Zp)(n:Node):z.push n=z.setCur (z.cur++[n]):=by
 obtain⟨out,opn⟩:=z;cases opn<;>rfl
theorem Zp.cur_setCur(z:Zp)(l:List Node):(z.setCur l).cur=l:=by
 obtain⟨out,opn⟩:=z;cases opn<;>rfl
theorem Zp.setCur_setCur(z:Zp)(l l':List Node):(z.setCur l).setCur l'=z.setCur l':=by
 obtain⟨out,opn⟩:=z;cases opn<;>rfl
theorem Zp.ctx_setCur(z:Zp)(l:List Node):(z.setCur l).ctx=z.ctx:=by
 obtain⟨out,opn⟩:=z;cases opn<;>rfl
theorem Zp.setCur_cur(z:Zp):z.setCur z.cur=z:=by
 obtain⟨out,opn⟩:=z;cases opn<;>rfl
theorem Zp.closeW_no{z:Zp}{nm:Str}(h:dk z.ctx nm=false):z.closeW nm=z:=by
 obtain⟨out,opn⟩:=z;cases opn with
 |nil=>rfl
 |cons f l=>
   simp only[Zp.ctx]at h;simp[Zp.closeW,Zp.closeG,h]
theorem yi(b:Bool)(l:List Node)(n:Node):fy b (l++[n])=decide (n.kind=2):=by simp[fy]
theorem wn{l:List Node}{t:Str}(h:fy false l=false):ej l t=l++[⟨2,[],[],t,[]⟩]:=by
 unfold fy at h;unfold ej;cases hl:l.getLast? with
 |none=>rfl
 |some n=>
   rw[hl]at h;simp only[decide_eq_false_iff_not]at h;simp only;rw[if_neg h]
theorem RU{z:Zp}{nm:Str}{a:List Attr}{ks:List Node}:cA ⟨z.out,⟨nm,a,ks⟩::z.opn⟩ ⟨2,nm,[],[]⟩=z.push ⟨1,nm,a,[],ks⟩:=by
 simp[cA,Zp.has,Zp.endG,Zp.shut]
theorem Pk:∀(l:List Node)(z:Zp)(b:Bool),cK b l=0->dQ l=true->l.all (bw z.ctx)=true->(fy false z.cur=true->b=true)->(tkL l).foldl cA z=z.setCur (z.cur++l):=by
 refine aC (p:=fun l=>∀(z:Zp)(b:Bool),cK b l=0->dQ l=true->l.all (bw z.ctx)=true->(fy false z.cur=true->b=true)->(tkL l).foldl cA z=z.setCur (z.cur++l)) ?_ ?_
 ·intro z b _ _ _ _
  simp[tkL,Zp.setCur_cur]
 ·intro n l ihk ihl z b hm ha hf hb
  obtain⟨h1,h2,h3⟩:=dy hm;obtain⟨a1,a2,a3,a4⟩:=vd ha;simp only[zEf,zAd]at hf;obtain⟨f1,f2⟩:=hf
  have step:∀z':Zp,z'=z.setCur (z.cur++[n])->(tkL l).foldl cA z'=z.setCur (z.cur++n::l):=by
   intro z' hz;subst hz;rw[ihl _ (decide (n.kind=2)) h3 a4 (by rw[Zp.ctx_setCur];exact f2) (by rw[Zp.cur_setCur,yi];exact id),Zp.cur_setCur,Zp.setCur_setCur]
   simp
  simp only[tkL,zEc,Ih];rcases ii h1 with⟨hk,ht,hn,hd,_⟩|⟨hk,hn,hat,hks,_,h5⟩
  ·rw[if_pos hk]
   have hcw:z.closeW n.name=z:=Zp.closeW_no (El f1 hk);by_cases hv:ew n.name=true
   ·have hks:n.kids=[]:=by
     cases hkk:n.kids with
     |nil=>rfl
     |cons x l'=>
       rw[hkk]at a2;simp[bw,hv]at a2
    have hn':n=⟨1,n.name,n.attrs,[],[]⟩:=by cases n;simp_all
    rw[if_pos hv];simp only[zCh,zDe];refine step _ ?_;simp only[cA,if_true,if_pos hv,hcw];rw[Zp.push_setCur,<-hn']
   ·rw[if_neg hv]
    have hn':n=⟨1,n.name,n.attrs,[],n.kids⟩:=by cases n;simp_all
    simp only[zCh,zEc,zDe];refine step _ ?_
    have e1:cA z ⟨1,n.name,n.attrs,[]⟩=⟨z.out,⟨n.name,n.attrs,[]⟩::z.opn⟩:=by
     simp only[cA,if_true,if_neg hv,hcw]
    rw[e1,ihk ⟨z.out,⟨n.name,n.attrs,[]⟩::z.opn⟩ false h2 a3 a2 (by simp[Zp.cur,fy])]
    simp only[Zp.setCur,Zp.cur,zAg];rw[RU,Zp.push_setCur,<-hn'];rfl
  ·rcases hk with hk|hk
   ·have h6:=h5 hk
    have hn':n=⟨2,[],[],n.text,[]⟩:=by cases n;simp_all
    rw[hk,if_neg (by decide),if_pos rfl]
    simp only[zCh,zDe];refine step _ ?_
    have hl:fy false z.cur=false:=by
     cases hl:fy false z.cur with
     |false=>rfl
     |true=>rw[h6.2]at hb;exact(hb hl).symm
    simp only[cA,wn hl];simp only[show ¬(3:Nat)=1 by decide,show ¬(3:Nat)=2 by decide,if_false,if_true]
    rw[if_neg h6.1,<-hn']
   ·have htx:n=⟨3,[],[],n.text,[]⟩:=by cases n;simp_all
    rw[hk,if_neg (by decide),if_neg (by decide)]
    simp only[zCh,zDe];refine step _ ?_;simp only[cA];simp only[show ¬(4:Nat)=1 by decide,show ¬(4:Nat)=2 by decide,show ¬(4:Nat)=3 by decide,if_false,if_true]
    rw[Zp.push_setCur,<-htx]
theorem E3{l:List Node}(h:b6 l=true):cN (tkL l)=l:=by
 simp only[b6,may,zAd,decide_eq_true_eq]at h;unfold cN;rw[Pk l ⟨[],[]⟩ false (of_decide_eq_true h.1) h.2 (zDh.2 fun n _=>Mt n) (by simp[Zp.cur,fy])]
 rfl
theorem nj{l:List Node}(h:b6 l=true):cN (aO (wrL false l))=l:=by rw[zH h,E3 h]
def OpR(recs:List Rec)(out:List Nat)(C:Nat->Prop)(sem:Nat->Node):Option Nat->List (Nat×Str)->List Fr->List Node->Prop
 |inn,[],[],zo=>∃ks,out=ks++inn.toList/\zo=ks.map sem/\∀i∈ks,C i
 |inn,o::l,f::fs,zo=>(∃(x:Rec)(ks:List Nat),recs[o.1]?=some x/\x.kind=1/\x.name=f.name/\o.2=f.name/\x.attrs=f.attrs/\x.text=[]/\x.kids=ks++inn.toList/\f.kids=ks.map sem/\∀i∈ks,C i)/\OpR recs out C sem (some o.1) l fs zo
 |_,_::_,[],_=>False
 |_,[],_::_,_=>False
theorem OpR.mono{recs recs':List Rec}{out out':List Nat}{C C':Nat->Prop}{sem sem':Nat->Node}:∀{l:List (Nat×Str)}{fs:List Fr}{inn:Option Nat}{zo:List Node},OpR recs out C sem inn l fs zo->
 (∀o∈l,recs'[o.1]?=recs[o.1]?)->out'=out->(∀o∈l,∀x,recs[o.1]?=some x->∀i∈x.kids,C i->C' i/\sem' i=sem i)->(∀i∈out,C i->C' i/\sem' i=sem i)->OpR recs' out' C' sem' inn l fs zo
 |[],[],inn,zo,h,_,h2,_,h4=>by
   obtain⟨ks,e1,e2,e3⟩:=h;have hk:∀i∈ks,C' i/\sem' i=sem i:=fun i hi=>h4 i (by rw[e1];simp[hi]) (e3 i hi)
   exact⟨ks,by rw[h2,e1],by rw[e2];exact zBe fun i hi=>(hk i hi).2.symm,fun i hi=>(hk i hi).1⟩
 |o::l,f::fs,inn,zo,h,h1,h2,h3,h4=>by
   obtain⟨⟨x,ks,e1,e2,e3,e4,e5,e6,e7,e8,e9⟩,h⟩:=h;have hk:∀i∈ks,C' i/\sem' i=sem i:=fun i hi=>h3 o (by simp) x e1 i (by rw[e7];simp[hi]) (e9 i hi)
   refine⟨⟨x,ks,by rw[h1 o (by simp)];exact e1,e2,e3,e4,e5,e6,e7,by rw[e8];exact zBe fun i hi=>(hk i hi).2.symm,fun i hi=>(hk i hi).1⟩,?_⟩
   exact OpR.mono h (fun p hp=>h1 p (by simp[hp])) h2 (fun p hp=>h3 p (by simp[hp])) h4
 |_::_,[],_,_,h,_,_,_,_=>h.elim
 |[],_::_,_,_,h,_,_,_,_=>h.elim
def ids(b:BS):List Nat:=b.opn.map (·.1)
structure ZR (b:BS) (z:Zp) (sem:Nat->Node) (par:Nat->Nat):Prop where
 l1:∀(r:Nat)(x:Rec),b.recs[r]?=some x->∀i∈x.kids,i<b.recs.length
 l2:∀i∈b.out,i<b.recs.length
 l3:∀i∈ids b,i<b.recs.length
 cl:∀(r:Nat)(x:Rec),b.recs[r]?=some x->r ∉ ids b->sem r=⟨x.kind,x.name,x.attrs,gp x,x.kids.map sem⟩/\∀i∈x.kids,i ∉ ids b
 op:OpR b.recs b.out (fun i=>i ∉ ids b) sem none b.opn z.opn z.out
 nd:(ids b).Nodup
 pk:∀(r:Nat)(x:Rec),b.recs[r]?=some x->x.kids.Nodup/\∀i∈x.kids,par i=r+1
 po:b.out.Nodup/\∀i∈b.out,par i=0
def EZ(f:Nat->Nat)(i j:Nat):Nat->Nat:=fun k=>if k=i then j else f k
def wt(f:Nat->Node)(i:Nat)(n:Node):Nat->Node:=fun k=>if k=i then n else f k
theorem fO(f:Nat->Node)(i:Nat)(n:Node):wt f i n i=n:=by simp[wt]
theorem kV{f:Nat->Node}{i k:Nat}{n:Node}(h:k≠i):wt f i n k=f k:=by simp[wt,h]
theorem jX{f:Nat->Node}{i:Nat}{n:Node}{l:List Nat}(h:i ∉ l):l.map (wt f i n)=l.map f:=zBe fun k hk=>kV fun e=>h (e ▸ hk)
theorem xG{l:List Nat}{n:Nat}(h:l.Nodup)(hn:n ∉ l):(l++[n]).Nodup:=by
 rw[zEd];exact⟨h,by simp,fun a ha b hb=>by simp at hb;subst hb;exact fun e=>hn (e ▸ ha)⟩
def gR(b:BS):Nat:=match b.opn with
 |[]=>0
 |o::_=>o.1+1
theorem sM(b:BS)(x:Rec):ids (b.add x)=ids b:=by
 obtain⟨r,o,p⟩:=b;simp only[BS.add,BS.link,BS.new,ids];cases p<;>rfl
theorem zB(b:BS)(x:Rec):(b.add x).opn=b.opn:=by
 obtain⟨r,o,p⟩:=b;simp only[BS.add,BS.link,BS.new];cases p<;>rfl
theorem tZ(b:BS)(x:Rec):(b.add x).recs.length=b.recs.length+1:=by
 obtain⟨r,o,p⟩:=b;cases p<;>simp[BS.add,BS.link,BS.new]
theorem pm{b:BS}{x y:Rec}{r:Nat}(hlt:∀i∈ids b,i<b.recs.length)(h:(b.add x).recs[r]?=some y):(r=b.recs.length/\y=x)\/(r<b.recs.length/\∃y0,b.recs[r]?=some y0/\y=if gR b=r+1 then y0.kid b.recs.length else y0):=by
 obtain⟨rs,out,opn⟩:=b;simp only at hlt⊢
 have base:∀{y:Rec},(rs++[x])[r]?=some y->(r=rs.length/\y=x)\/(r<rs.length/\rs[r]?=some y):=fun{y} hy=>by
  rcases Nat.lt_or_ge r rs.length with h1|h1
  ·rw[zBh h1]at hy
   exact .inr ⟨h1,hy⟩
  ·have h2:=(zDf.1 hy).1
   simp only[List.length_append,zCf,zDb]at h2;have:r=rs.length:=by omega
   subst this;rw[dd]at hy;simp only[List.getElem?_cons_zero,zFc]at hy;exact .inl ⟨rfl,hy.symm⟩
 cases opn with
 |nil=>
   simp only[BS.add,BS.link,BS.new]at h;rcases base h with h1|⟨h1,h2⟩
   ·exact .inl h1
   ·exact .inr ⟨h1,y,h2,by simp[gR]⟩
 |cons o l=>
   simp only[BS.add,BS.link,BS.new]at h;obtain⟨y0,h1,rfl⟩:=dh h;have ho:o.1<rs.length:=hlt o.1 (by simp[ids])
   rcases base h1 with⟨h2,h3⟩|⟨h2,h3⟩
   ·exact .inl ⟨h2,by rw[if_neg (by omega)];exact h3⟩
   ·refine .inr ⟨h2,y0,h3,?_⟩
    by_cases e:o.1=r
    ·rw[if_pos e,if_pos (by simp only[gR];omega)]
    ·rw[if_neg e,if_neg (by simp only[gR];omega)]
theorem KP{b:BS}{x y0:Rec}{r:Nat}(h:b.recs[r]?=some y0):(b.add x).recs[r]?=some (if gR b=r+1 then y0.kid b.recs.length else y0):=by
 obtain⟨rs,out,opn⟩:=b;have h1:=(zDf.1 h).1;have h2:(rs++[x])[r]?=some y0:=by rw[zBh h1];exact h
 cases opn with
 |nil=>simpa[BS.add,BS.link,BS.new,gR]using h2
 |cons o l=>
   simp only[BS.add,BS.link,BS.new];rw[pz h2];by_cases e:o.1=r
   ·rw[if_pos e,if_pos (by simp only[gR];omega)]
   ·rw[if_neg e,if_neg (by simp only[gR];omega)]
theorem SU{b:BS}{x:Rec}(hlt:∀i∈ids b,i<b.recs.length):(b.add x).recs[b.recs.length]?=some x:=by
 obtain⟨y,hy⟩:=bH (l:=(b.add x).recs) (k:=b.recs.length) (by rw[tZ];omega)
 rcases pm hlt hy with⟨_,rfl⟩|⟨h,_⟩
 ·exact hy
 ·omega
theorem ES(b:BS)(x:Rec):(b.add x).out=if gR b=0 then b.out++[b.recs.length]else b.out:=by
 obtain⟨r,o,p⟩:=b;cases p<;>simp[BS.add,BS.link,BS.new,gR]
section
variable{b:BS}{z:Zp}{sem:Nat->Node}{par:Nat->Nat}
theorem ZR.fresh(h:ZR b z sem par):b.recs.length ∉ ids b:=fun e=>by have:=h.l3 _ e;omega
theorem ZR.add_base(h:ZR b z sem par){x:Rec}(hx:x.kids=[]):
 (∀(r:Nat)(y:Rec),(b.add x).recs[r]?=some y->∀i∈y.kids,i<(b.add x).recs.length)/\(∀i∈(b.add x).out,i<(b.add x).recs.length)/\
 (∀(r:Nat)(y:Rec),(b.add x).recs[r]?=some y->y.kids.Nodup/\∀i∈y.kids,EZ par b.recs.length (gR b) i=r+1)/\((b.add x).out.Nodup/\∀i∈(b.add x).out,EZ par b.recs.length (gR b) i=0):=by
 have hp:∀i,i<b.recs.length->EZ par b.recs.length (gR b) i=par i:=fun i hi=>by simp[EZ];omega
 refine⟨fun r y hr i hi=>?_,fun i hi=>?_,fun r y hr=>?_,?_,fun i hi=>?_⟩
 ·rw[tZ]
  rcases pm h.l3 hr with⟨_,rfl⟩|⟨_,y0,hy,rfl⟩
  ·rw[hx]at hi;cases hi
  ·have:=h.l1 r y0 hy
   split at hi
   ·simp only[Rec.kid,zAh,zAa,zAe,or_false]at hi
    rcases hi with hi|rfl
    ·have:=this i hi;omega
    ·omega
   ·have:=this i hi;omega
 ·rw[tZ]
  rw[ES]at hi;split at hi
  ·simp only[zAh,zAa,zAe,or_false]at hi
   rcases hi with hi|rfl
   ·have:=h.l2 i hi;omega
   ·omega
  ·have:=h.l2 i hi;omega
 ·rcases pm h.l3 hr with⟨_,rfl⟩|⟨_,y0,hy,rfl⟩
  ·rw[hx];simp
  ·obtain⟨k1,k2⟩:=h.pk r y0 hy
   have k3:=h.l1 r y0 hy;split
   ·rename_i ht
    refine⟨xG k1 fun e=>by have:=k3 _ e;omega,fun i hi=>?_⟩
    simp only[Rec.kid,zAh,zAa,zAe,or_false]at hi;rcases hi with hi|rfl
    ·rw[hp i (k3 i hi)];exact k2 i hi
    ·simp[EZ,ht]
   ·exact⟨k1,fun i hi=>by rw[hp i (k3 i hi)];exact k2 i hi⟩
 ·rw[ES]
  split
  ·exact xG h.po.1 fun e=>by have:=h.l2 _ e;omega
  ·exact h.po.1
 ·rw[ES]at hi
  split at hi
  ·rename_i ht
   simp only[zAh,zAa,zAe,or_false]at hi;rcases hi with hi|rfl
   ·rw[hp i (h.l2 i hi)];exact h.po.2 i hi
   ·simp[EZ,ht]
  ·rw[hp i (h.l2 i hi)];exact h.po.2 i hi
theorem OpR.add{C':Nat->Prop}{sem':Nat->Node}{inn:Option Nat}(h:ZR b z sem par)(x:Rec)(hC:∀i,i<b.recs.length->i ∉ ids b->C' i/\sem' i=sem i)
 (hin:inn=some b.recs.length\/(inn=none/\C' b.recs.length)):OpR (b.add x).recs (b.add x).out C' sem' inn b.opn (if inn=none then z.push (sem' b.recs.length)else z).opn (if inn=none then z.push (sem' b.recs.length)else z).out:=by
 have hop:=h.op;obtain⟨rs,out,opn⟩:=b;obtain⟨zo,zf⟩:=z;simp only at hop hC hin⊢;cases opn with
 |nil=>
   cases zf with
   |cons f fs=>exact hop.elim
   |nil=>
     obtain⟨ks,e1,e2,e3⟩:=hop;simp only[zCa,zAj]at e1;have hk:∀i∈ks,C' i/\sem' i=sem i:=fun i hi=>hC i (h.l2 i (by simp only;rw[e1];exact hi)) (e3 i hi)
     have hm:ks.map sem'=ks.map sem:=zBe fun i hi=>(hk i hi).2;rcases hin with rfl|⟨rfl,hn⟩
     ·refine⟨ks,?_,?_,fun i hi=>(hk i hi).1⟩
      ·simp[BS.add,BS.link,BS.new,e1]
      ·simp only[reduceCtorEq,if_false]
       rw[e2,hm]
     ·refine⟨ks++[rs.length],?_,?_,fun i hi=>?_⟩
      ·simp[BS.add,BS.link,BS.new,e1]
      ·simp[Zp.push,e2,hm]
      ·simp only[zAh,zAa,zAe,or_false]at hi
       rcases hi with hi|rfl
       ·exact(hk i hi).1
       ·exact hn
 |cons o l=>
   cases zf with
   |nil=>exact hop.elim
   |cons f fs=>
     obtain⟨⟨y,ks,e1,e2,e3,e4,e5,e6,e7,e8,e9⟩,hrest⟩:=hop;simp only[zCa,zAj]at e7;have hk:∀i∈ks,C' i/\sem' i=sem i:=fun i hi=>hC i (h.l1 _ _ e1 i (by rw[e7];exact hi)) (e9 i hi)
     have hm:ks.map sem'=ks.map sem:=zBe fun i hi=>(hk i hi).2;have hnd:=h.nd;simp only[ids,zAc,zDc]at hnd
     have hget:(BS.add ⟨rs,out,o::l⟩ x).recs[o.1]?=some (y.kid rs.length):=by
      have:=KP (b:=⟨rs,out,o::l⟩) (x:=x) e1;have htc:gR ⟨rs,out,o::l⟩=o.1+1:=rfl;rwa[if_pos htc]at this
     have hrest':OpR (BS.add ⟨rs,out,o::l⟩ x).recs (BS.add ⟨rs,out,o::l⟩ x).out C' sem' (some o.1) l fs zo:=by
      refine OpR.mono hrest (fun p hp=>?_) (by simp[BS.add,BS.link,BS.new]) (fun p hp y hy i hi hc=>hC i (h.l1 _ _ hy i hi) hc) (fun i hi hc=>hC i (h.l2 i hi) hc)
      have hp3:p.1<rs.length:=h.l3 p.1 (by simp only[ids,zAc,zAa];exact .inr (zCg (f:=(·.1)) hp))
      obtain⟨y2,hy2⟩:=bH (l:=rs) (k:=p.1) hp3;have:=KP (b:=⟨rs,out,o::l⟩) (x:=x) hy2;have hne:p.1≠o.1:=fun e=>hnd.1 (e ▸ zCg (f:=(·.1)) hp);rw[if_neg (by simp only[gR];omega)]at this
      rw[this,hy2]
     rcases hin with rfl|⟨rfl,hn⟩
     ·simp only[reduceCtorEq,if_false]
      exact⟨⟨_,ks,hget,e2,e3,e4,e5,e6,by simp[Rec.kid,e7],by rw[e8,hm],fun i hi=>(hk i hi).1⟩,hrest'⟩
     ·simp only[if_true,Zp.push]
      refine⟨⟨_,ks++[rs.length],hget,e2,e3,e4,e5,e6,by simp[Rec.kid,e7],by simp[e8,hm],fun i hi=>?_⟩,hrest'⟩
      simp only[zAh,zAa,zAe,or_false]at hi;rcases hi with hi|rfl
      ·exact(hk i hi).1
      ·exact hn
theorem ZR.leaf(h:ZR b z sem par){x:Rec}(hx:x.kids=[]):ZR (b.add x) (z.push ⟨x.kind,x.name,x.attrs,gp x,[]⟩) (wt sem b.recs.length ⟨x.kind,x.name,x.attrs,gp x,[]⟩) (EZ par b.recs.length (gR b)):=by
 obtain⟨a1,a2,a3,a4⟩:=h.add_base hx;have hop:=OpR.add (C':=fun i=>i ∉ ids b) (sem':=wt sem b.recs.length ⟨x.kind,x.name,x.attrs,gp x,[]⟩) (inn:=none) h x (fun i hi hc=>⟨hc,kV (by omega)⟩) (.inr ⟨rfl,h.fresh⟩)
 simp only[if_true,fO]at hop;refine⟨a1,a2,fun i hi=>?_,fun r y hr hc=>?_,?_,by rw[sM];exact h.nd,a3,a4⟩
 ·rw[sM]at hi
  rw[tZ];have:=h.l3 i hi;omega
 ·rw[sM]at hc
  rcases pm h.l3 hr with⟨rfl,rfl⟩|⟨hlt,y0,hy,rfl⟩
  ·rw[fO,hx]
   exact⟨rfl,fun i hi=>by cases hi⟩
  ·obtain⟨k1,k2⟩:=h.cl r y0 hy hc
   have ht:¬gR b=r+1:=fun e=>by
    apply hc;unfold gR at e;cases ho:b.opn with
    |nil=>rw[ho]at e;cases e
    |cons o l=>
      rw[ho]at e;simp only at e;simp only[ids,ho,zAc,zAa];omega
   rw[if_neg ht,kV (by omega),k1]
   refine⟨?_,fun i hi=>by rw[sM];exact k2 i hi⟩
   rw[jX fun e=>by have:=h.l1 r y0 hy _ e;omega]
 ·rw[zB,show(fun i=>i ∉ ids (b.add x))=fun i=>i ∉ ids b by rw[sM]]
  exact hop
theorem ZR.enter(h:ZR b z sem par)(nm:Str)(a:List Attr):ZR ((b.add ⟨1,nm,a,[],[],[]⟩).open' b.recs.length nm) ⟨z.out,⟨nm,a,[]⟩::z.opn⟩ sem (EZ par b.recs.length (gR b)):=by
 obtain⟨a1,a2,a3,a4⟩:=h.add_base (x:=⟨1,nm,a,[],[],[]⟩) rfl
 have hid:ids ((b.add ⟨1,nm,a,[],[],[]⟩).open' b.recs.length nm)=b.recs.length::ids b:=by
  simp only[BS.open',ids,zAc];rw[zB]
 have hop:=OpR.add (C':=fun i=>i ∉ b.recs.length::ids b) (sem':=sem) (inn:=some b.recs.length) h ⟨1,nm,a,[],[],[]⟩ (fun i hi hc=>⟨by simp only[zAa,not_or];exact⟨by omega,hc⟩,rfl⟩) (.inl rfl)
 simp only[reduceCtorEq,if_false]at hop;refine⟨a1,a2,fun i hi=>?_,fun r y hr hc=>?_,?_,?_,a3,a4⟩
 ·rw[hid]at hi
  simp only[BS.open'];rw[tZ];rcases zAa.1 hi with rfl|hi
  ·omega
  ·have:=h.l3 i hi
   omega
 ·rw[hid]at hc
  simp only[zAa,not_or]at hc;rcases pm h.l3 hr with⟨rfl,rfl⟩|⟨hlt,y0,hy,rfl⟩
  ·exact(hc.1 rfl).elim
  ·obtain⟨k1,k2⟩:=h.cl r y0 hy hc.2
   have ht:¬gR b=r+1:=fun e=>by
    apply hc.2;unfold gR at e;cases ho:b.opn with
    |nil=>rw[ho]at e;cases e
    |cons o l=>
      rw[ho]at e;simp only at e;simp only[ids,ho,zAc,zAa];omega
   rw[if_neg ht];refine⟨k1,fun i hi=>?_⟩;rw[hid];simp only[zAa,not_or];have:=h.l1 r y0 hy i hi;exact⟨by omega,k2 i hi⟩
 ·rw[show(fun i=>i ∉ ids ((b.add ⟨1,nm,a,[],[],[]⟩).open' b.recs.length nm))=fun i=>i ∉ b.recs.length::ids b by rw[hid]]
  simp only[BS.open'];rw[zB];exact⟨⟨_,[],SU h.l3,rfl,rfl,rfl,rfl,rfl,rfl,rfl,fun i hi=>by cases hi⟩,hop⟩
 ·rw[hid,zDc]
  exact⟨h.fresh,h.nd⟩
theorem ZR.shut{o:Nat×Str}{l:List (Nat×Str)}(h:ZR b z sem par)(ho:b.opn=o::l):∃sem',ZR b.shut z.shut sem' par/\∃f fs,z.opn=f::fs/\o.2=f.name:=by
 have hop:=h.op;obtain⟨rs,out,opn⟩:=b;obtain⟨zo,zf⟩:=z;simp only at ho hop⊢;subst ho;cases zf with
 |nil=>exact hop.elim
 |cons f fs=>
   obtain⟨⟨x,ks,e1,e2,e3,e4,e5,e6,e7,e8,e9⟩,hrest⟩:=hop;simp only[zCa,zAj]at e7;subst e7;have hnd:=h.nd;simp only[ids,zAc,zDc]at hnd;have hol:o.1<rs.length:=h.l3 o.1 (by simp[ids])
   have hsub:∀i,i ∉ ids ⟨rs,out,o::l⟩->i ∉ ids (BS.shut ⟨rs,out,o::l⟩)/\i≠o.1:=fun i hi=>by
    simp only[ids,zAc,zAa,not_or,BS.shut,zBi]at hi⊢;exact⟨hi.2,hi.1⟩
   have hn:gp x=[]:=by unfold gp;rw[if_neg (by omega)];exact e6
   have hksm:x.kids.map (wt sem o.1 ⟨1,f.name,f.attrs,[],f.kids⟩)=x.kids.map sem:=jX fun e=>(hsub _ (e9 _ e)).2 rfl
   have hoc:o.1 ∉ ids (BS.shut ⟨rs,out,o::l⟩):=by
    simp only[ids,BS.shut,zBi];exact hnd.1
   refine⟨wt sem o.1 ⟨1,f.name,f.attrs,[],f.kids⟩,⟨h.l1,h.l2,fun i hi=>h.l3 i ?_,fun r y hr hc=>?_,?_,hnd.2,h.pk,h.po⟩,f,fs,rfl,e4⟩
   ·simp only[ids,BS.shut,zBi,zAc,zAa]at hi⊢
    exact .inr hi
   ·by_cases er:r=o.1
    ·subst er
     have hxy:x=y:=zEj.inj (e1.symm.trans hr);subst hxy;rw[fO];refine⟨?_,fun i hi=>(hsub i (e9 i hi)).1⟩;rw[hksm,e2,e3,e5,hn,e8];rfl
    ·have hc':r ∉ ids ⟨rs,out,o::l⟩:=by
      simp only[ids,zAc,zAa,not_or,BS.shut,zBi]at hc⊢;exact⟨er,hc⟩
     obtain⟨k1,k2⟩:=h.cl r y hr hc';rw[kV er,k1];refine⟨?_,fun i hi=>(hsub i (k2 i hi)).1⟩;rw[jX fun e=>(hsub _ (k2 _ e)).2 rfl]
   ·have mono:∀i,i ∉ ids ⟨rs,out,o::l⟩->i ∉ ids (BS.shut ⟨rs,out,o::l⟩)/\wt sem o.1 ⟨1,f.name,f.attrs,[],f.kids⟩ i=sem i:=fun i hi=>⟨(hsub i hi).1,kV (hsub i hi).2⟩
    have hm:∀ks:List Nat,(∀i∈ks,i ∉ ids ⟨rs,out,o::l⟩)->ks.map (wt sem o.1 ⟨1,f.name,f.attrs,[],f.kids⟩)=ks.map sem:=fun ks hks=>zBe fun i hi=>(mono i (hks i hi)).2;simp only[Zp.shut,Zp.push];cases l with
    |nil=>
      cases fs with
      |cons g gs=>exact hrest.elim
      |nil=>
        obtain⟨ks,f1,f2,f3⟩:=hrest;refine⟨ks++[o.1],by simp[BS.shut,f1],?_,fun i hi=>?_⟩
        ·simp only[zCb,zAc,zCi,fO,hm ks f3,f2]
        ·simp only[zAh,zAa,zAe,or_false]at hi
         rcases hi with hi|rfl
         ·exact(mono i (f3 i hi)).1
         ·exact hoc
    |cons p l=>
      cases fs with
      |nil=>exact hrest.elim
      |cons g gs=>
        obtain⟨⟨y,ks,f1,f2,f3,f4,f5,f6,f7,f8,f9⟩,hrest2⟩:=hrest;refine⟨⟨y,ks++[o.1],f1,f2,f3,f4,f5,f6,by simpa using f7,?_,fun i hi=>?_⟩,?_⟩
        ·simp only[zCb,zAc,zCi,fO,hm ks f9,f8]
        ·simp only[zAh,zAa,zAe,or_false]at hi
         rcases hi with hi|rfl
         ·exact(mono i (f9 i hi)).1
         ·exact hoc
        ·exact OpR.mono hrest2 (fun _ _=>rfl) rfl (fun _ _ _ _ i _ hc=>mono i hc) (fun i _ hc=>mono i hc)
theorem ZR.row(h:ZR b z sem par):z.cur=b.row.map sem/\(∀i∈b.row,i ∉ ids b/\i<b.recs.length/\par i=gR b)/\b.row.Nodup:=by
 have hop:=h.op;cases ho:b.opn with
 |nil=>
   rw[ho]at hop;obtain⟨zo,zf⟩:=z;cases zf with
   |cons f fs=>exact hop.elim
   |nil=>
     obtain⟨ks,e1,e2,e3⟩:=hop;simp only[zCa,zAj]at e1 e2;simp only[BS.row,ho,Zp.cur,gR];exact⟨by rw[e1,e2],fun i hi=>⟨e3 i (by rw[<-e1];exact hi),h.l2 i hi,h.po.2 i hi⟩,h.po.1⟩
 |cons o l=>
   rw[ho]at hop;obtain⟨zo,zf⟩:=z;cases zf with
   |nil=>exact hop.elim
   |cons f fs=>
     obtain⟨⟨x,ks,e1,e2,e3,e4,e5,e6,e7,e8,e9⟩,_⟩:=hop;simp only[zCa,zAj]at e7;simp only[BS.row,ho,Zp.cur,gR,e1];exact⟨by rw[e7];exact e8,fun i hi=>⟨e9 i (by rw[<-e7];exact hi),h.l1 _ _ e1 i hi,(h.pk _ _ e1).2 i hi⟩,(h.pk _ _ e1).1⟩
theorem Lb(h:ZR b z sem par){r:Nat}(hr:r ∉ ids b):gR b≠r+1:=fun e=>by
 apply hr;unfold gR at e;cases ho:b.opn with
 |nil=>rw[ho]at e;cases e
 |cons o l=>
   rw[ho]at e;simp only at e;simp only[ids,ho,zAc,zAa];omega
theorem ZR.text(h:ZR b z sem par){l:List Nat}{i:Nat}{x:Rec}{t:Str}(hr:b.row=l++[i])(hx:b.recs[i]?=some x)(hk:x.kind=2):∃sem',ZR ⟨b.recs.modify i (·.more t),b.out,b.opn⟩ (z.setCur (ej z.cur t)) sem' par:=by
 obtain⟨r1,r2,r3⟩:=h.row;obtain⟨c1,c2,c3⟩:=r2 i (by rw[hr];simp)
 have hil:i ∉ l:=by
  rw[hr,zEd]at r3;exact fun e=>r3.2.2 i e i (by simp) rfl
 obtain⟨k1,k2⟩:=h.cl i x hx c1;have htx:gp x=x.body:=by simp[gp,hk]
 have hcur:ej z.cur t=l.map sem++[⟨2,x.name,x.attrs,x.body++t,x.kids.map sem⟩]:=by
  rw[r1,hr,zCb,zAc,zCi];simp[ej,k1,hk,htx]
 have hpar:∀(r:Nat)(y:Rec),b.recs[r]?=some y->r ∉ ids b->i ∉ y.kids:=fun r y hy hc e=>by
  have:=(h.pk r y hy).2 i e;exact Lb h hc (by omega)
 refine⟨wt sem i ⟨2,x.name,x.attrs,x.body++t,x.kids.map sem⟩,?_⟩
 have hget:∀{r:Nat}{y:Rec},(b.recs.modify i (·.more t))[r]?=some y->∃y0,b.recs[r]?=some y0/\y.kids=y0.kids/\(r≠i->y=y0)/\(r=i->y=y0.more t):=fun{r y} hy=>by
  obtain⟨y0,h1,rfl⟩:=dh hy;refine⟨y0,h1,by split<;>rfl,fun e=>by rw[if_neg (Ne.symm e)],fun e=>by rw[if_pos e.symm]⟩
 refine⟨fun r y hy j hj=>?_,fun j hj=>?_,fun j hj=>?_,fun r y hy hc=>?_,?_,h.nd,fun r y hy=>?_,h.po⟩
 ·obtain⟨y0,h1,h2,_⟩:=hget hy
  rw[dM];exact h.l1 r y0 h1 j (by rw[<-h2];exact hj)
 ·rw[dM];exact h.l2 j hj
 ·rw[dM];exact h.l3 j hj
 ·obtain⟨y0,h1,h2,h3,h4⟩:=hget hy
  obtain⟨g1,g2⟩:=h.cl r y0 h1 hc;have hni:=hpar r y0 h1 hc;refine⟨?_,fun j hj=>g2 j (by rw[<-h2];exact hj)⟩
  by_cases er:r=i
  ·have:=h4 er
   subst er;have hxy:x=y0:=zEj.inj (hx.symm.trans h1);subst hxy;rw[fO,this];simp only[Rec.more,gp,hk,if_true];rw[jX hni];rfl
  ·rw[kV er,h3 er,g1,jX hni]
 ·have hop:=h.op
  have hother:∀o∈b.opn,(b.recs.modify i (·.more t))[o.1]?=b.recs[o.1]?:=fun o ho=>by
   have hne:i≠o.1:=fun e=>c1 (e ▸ zCg (f:=(·.1)) ho);rw[List.getElem?_modify];cases b.recs[o.1]?<;>simp[hne]
  cases ho:b.opn with
  |nil=>
    rw[ho]at hop;obtain⟨zo,zf⟩:=z;cases zf with
    |cons f fs=>exact hop.elim
    |nil=>
      obtain⟨ks,e1,e2,e3⟩:=hop;simp only[zCa,zAj]at e1;have hbr:b.out=l++[i]:=by rw[<-hr];simp[BS.row,ho]
      have hI:∀j,j ∉ ids b->j ∉ ids ⟨b.recs.modify i (·.more t),b.out,[]⟩:=fun j h=>by simp[ids]
      refine⟨l++[i],by simp[hbr],?_,fun j hj=>hI j (r2 j (by rw[hr];exact hj)).1⟩
      simp only[Zp.setCur];rw[hcur,zCb,zAc,zCi,fO,jX hil]
  |cons o l2=>
    rw[ho]at hop;obtain⟨zo,zf⟩:=z;cases zf with
    |nil=>exact hop.elim
    |cons f fs=>
      obtain⟨⟨y,ks,e1,e2,e3,e4,e5,e6,e7,e8,e9⟩,hrest⟩:=hop;have hbr:y.kids=l++[i]:=by rw[<-hr];simp[BS.row,ho,e1]
      have htop:gR b=o.1+1:=by simp[gR,ho]
      have hI:∀j,j ∉ ids b->j ∉ ids ⟨b.recs.modify i (·.more t),b.out,o::l2⟩:=fun j h=>by simpa[ids,ho]using h
      have hnd:=h.nd;simp only[ids,ho,zAc,zDc]at hnd;refine⟨⟨y,l++[i],by rw[hother o (by rw[ho];simp)];exact e1,e2,e3,e4,e5,e6,by simp[hbr],?_,fun j hj=>hI j (r2 j (by rw[hr];exact hj)).1⟩,?_⟩
      ·simp only[Zp.setCur]
       rw[hcur,zCb,zAc,zCi,fO,jX hil]
      ·refine OpR.mono hrest (fun p hp=>hother p (by rw[ho];simp[hp])) rfl (fun p hp y2 hy2 j hj hc=>⟨hI j hc,kV fun e=>?_⟩) (fun j hj hc=>⟨hI j hc,kV fun e=>?_⟩)
       ·subst e
        have:=(h.pk _ _ hy2).2 j hj;have hpo:p.1=o.1:=by omega
        exact hnd.1 (hpo ▸ zCg (f:=(·.1)) hp)
       ·subst e
        have:=h.po.2 j hj;omega
 ·obtain⟨y0,h1,h2,_⟩:=hget hy
  rw[h2];exact h.pk r y0 h1
end
theorem ZR.close(nm:Str):∀(k:Nat){b:BS}{z:Zp}{sem:Nat->Node}{par:Nat->Nat},ZR b z sem par->b.opn.length<=k->∃sem',ZR ⟨b.recs,b.out,nc nm b.opn⟩ (z.closeG nm k) sem' par
 |0,b,z,sem,par,h,hk=>by
   have:b.opn=[]:=zBc (by omega)
   refine⟨sem,?_⟩;obtain⟨r,o,p⟩:=b;simp only at this;subst this;exact h
 |k+1,b,z,sem,par,h,hk=>by
   cases ho:b.opn with
   |nil=>
     have hz:z.opn=[]:=by
      have:=h.op;rw[ho]at this;cases hz:z.opn with
      |nil=>rfl
      |cons f fs=>rw[hz]at this;exact this.elim
     refine⟨sem,?_⟩;obtain⟨r,o,p⟩:=b;simp only at ho;subst ho;simp only[nc,Zp.closeG,hz];exact h
   |cons o l=>
     obtain⟨sem',h1,f,fs,h2,h3⟩:=h.shut ho;simp only[nc,Zp.closeG,h2,h3];by_cases hc:dk f.name nm=true
     ·rw[if_pos hc,if_pos hc]
      have:=ZR.close nm k h1 (by simp only[BS.shut,ho,zBi];rw[ho]at hk;simpa using hk)
      simpa[BS.shut,ho]using this
     ·rw[if_neg hc,if_neg hc]
      refine⟨sem,?_⟩;rw[<-ho];exact h
theorem ZR.ends(nm:Str):∀(k:Nat){b:BS}{z:Zp}{sem:Nat->Node}{par:Nat->Nat},ZR b z sem par->b.opn.length<=k->∃sem',ZR ⟨b.recs,b.out,HA nm b.opn⟩ (z.endG nm k) sem' par
 |0,b,z,sem,par,h,hk=>by
   have:b.opn=[]:=zBc (by omega)
   refine⟨sem,?_⟩;obtain⟨r,o,p⟩:=b;simp only at this;subst this;exact h
 |k+1,b,z,sem,par,h,hk=>by
   cases ho:b.opn with
   |nil=>
     have hz:z.opn=[]:=by
      have:=h.op;rw[ho]at this;cases hz:z.opn with
      |nil=>rfl
      |cons f fs=>rw[hz]at this;exact this.elim
     refine⟨sem,?_⟩;obtain⟨r,o,p⟩:=b;simp only at ho;subst ho;simp only[HA,Zp.endG,hz];exact h
   |cons o l=>
     obtain⟨sem',h1,f,fs,h2,h3⟩:=h.shut ho;simp only[HA,Zp.endG,h2,h3];by_cases hc:f.name=nm
     ·rw[if_pos hc,if_pos hc]
      exact⟨sem',by simpa[BS.shut,ho]using h1⟩
     ·rw[if_neg hc,if_neg hc]
      have:=ZR.ends nm k h1 (by simp only[BS.shut,ho,zBi];rw[ho]at hk;simpa using hk)
      simpa[BS.shut,ho]using this
theorem OpR.len{recs:List Rec}{out:List Nat}{C:Nat->Prop}{sem:Nat->Node}:∀{l:List (Nat×Str)}{fs:List Fr}{inn:Option Nat}{zo:List Node},OpR recs out C sem inn l fs zo->l.length=fs.length/\∀nm:Str,l.any (fun o=>decide (o.2=nm))=fs.any (fun f=>decide (f.name=nm))
 |[],[],_,_,_=>⟨rfl,fun _=>rfl⟩
 |o::l,f::fs,inn,zo,h=>by
   obtain⟨⟨x,ks,e1,e2,e3,e4,_⟩,h⟩:=h;obtain⟨h1,h2⟩:=OpR.len h;exact⟨by simp[h1],fun nm=>by rw[zEg,zEg,h2 nm,e4]⟩
 |_::_,[],_,_,h=>h.elim
 |[],_::_,_,_,h=>h.elim
theorem ZR.put{b:BS}{z:Zp}{sem:Nat->Node}{par:Nat->Nat}(h:ZR b z sem par)(t:Tok):∃sem' par',ZR (mM b t) (cA z t) sem' par':=by
 obtain⟨hlen,hany⟩:=h.op.len;unfold mM cA;by_cases h1:t.kind=1
 ·rw[if_pos h1,if_pos h1]
  obtain⟨sem1,hc⟩:=ZR.close t.name z.opn.length h (by omega)
  have hc:ZR ⟨b.recs,b.out,nc t.name b.opn⟩ (z.closeW t.name) sem1 par:=hc;by_cases hv:ew t.name=true
  ·have hl:=hc.leaf (x:=⟨1,t.name,t.attrs,[],[],[]⟩) rfl
   simp only[BS.begin',hv,if_true];exact⟨_,_,hl⟩
  ·have hl:=hc.enter t.name t.attrs
   simp only[BS.begin',hv];exact⟨_,_,hl⟩
 ·rw[if_neg h1,if_neg h1]
  by_cases h2:t.kind=2
  ·rw[if_pos h2,if_pos h2,hany t.name]
   show ∃sem' par',ZR (if z.has t.name then _ else _) (if z.has t.name then _ else _) sem' par'
   by_cases hh:z.has t.name=true
   ·rw[if_pos hh,if_pos hh]
    obtain⟨sem1,hc⟩:=ZR.ends t.name z.opn.length h (by omega)
    exact⟨_,_,hc⟩
   ·rw[if_neg hh,if_neg hh]
    exact⟨_,_,h⟩
  ·rw[if_neg h2,if_neg h2]
   by_cases h3:t.kind=3
   ·rw[if_pos h3,if_pos h3]
    unfold BS.chars';by_cases hne:t.text=[]
    ·rw[if_pos hne,if_pos hne]
     exact⟨_,_,h⟩
    ·rw[if_neg hne,if_neg hne]
     obtain⟨r1,r2,r3⟩:=h.row
     have new:fy false z.cur=false->∃sem' par',ZR (b.add ⟨2,[],[],[],t.text,[]⟩) (z.setCur (ej z.cur t.text)) sem' par':=fun hl=>by
      have:=h.leaf (x:=⟨2,[],[],[],t.text,[]⟩) rfl;rw[wn hl,<-Zp.push_setCur];exact⟨_,_,this⟩
     cases hl:b.row.getLast? with
     |none=>
       have:b.row=[]:=List.getLast?_eq_none_iff.1 hl;exact new (by rw[r1,this];rfl)
     |some i=>
       obtain⟨l,hl⟩:=List.getLast?_eq_some_iff.1 hl;obtain⟨c1,c2,c3⟩:=r2 i (by rw[hl];simp)
       obtain⟨x,hx⟩:=bH (l:=b.recs) (k:=i) c2;simp only[hx];by_cases hk:x.kind=2
       ·rw[if_pos hk]
        obtain⟨sem',hz⟩:=h.text (t:=t.text) hl hx hk;exact⟨_,_,hz⟩
       ·rw[if_neg hk]
        refine new ?_;have:=(h.cl i x hx c1).1;rw[r1,hl,zCb,zAc,zCi,yi,this];simp only[decide_eq_false_iff_not];omega
   ·rw[if_neg h3,if_neg h3]
    by_cases h4:t.kind=4
    ·rw[if_pos h4,if_pos h4]
     have:=h.leaf (x:=⟨3,[],[],t.text,[],[]⟩) rfl;exact⟨_,_,this⟩
    ·rw[if_neg h4,if_neg h4]
     exact⟨_,_,h⟩
theorem ZR.all:∀(k:Nat){b:BS}{z:Zp}{sem:Nat->Node}{par:Nat->Nat},ZR b z sem par->b.opn.length<=k->∃sem',ZR ⟨b.recs,b.out,[]⟩ (z.allG k) sem' par
 |0,b,z,sem,par,h,hk=>by
   have:b.opn=[]:=zBc (by omega)
   refine⟨sem,?_⟩;obtain⟨r,o,p⟩:=b;simp only at this;subst this;exact h
 |k+1,b,z,sem,par,h,hk=>by
   cases ho:b.opn with
   |nil=>
     have hz:z.opn=[]:=by
      have:=h.op;rw[ho]at this;cases hz:z.opn with
      |nil=>rfl
      |cons f fs=>rw[hz]at this;exact this.elim
     have hs:z.shut=z:=by
      obtain⟨zo,zf⟩:=z;simp only at hz;subst hz;rfl
     simp only[Zp.allG,hs];exact ZR.all k h (by rw[ho];simp)
   |cons o l=>
     obtain⟨sem',h1,_⟩:=h.shut ho;have:=ZR.all k h1 (by simp only[BS.shut,ho,zBi];rw[ho]at hk;simpa using hk)
     exact this
def b0:BS:=⟨[],[],[]⟩
theorem ZR.start:ZR b0 ⟨[],[]⟩ (fun _=>⟨0,[],[],[],[]⟩) (fun _=>0):=
 ⟨fun r x h=>by simp[b0]at h,fun i h=>by simp[b0]at h,fun i h=>by simp[b0,ids]at h,fun r x h=>by simp[b0]at h,⟨[],rfl,rfl,fun i h=>by cases h⟩,by simp[ids,b0],fun r x h=>by simp[b0]at h,by simp[b0],fun i h=>by simp[b0]at h⟩
theorem ZR.fold:∀(ts:List Tok){b:BS}{z:Zp}{sem:Nat->Node}{par:Nat->Nat},ZR b z sem par->∃sem' par',ZR (ts.foldl mM b) (ts.foldl cA z) sem' par'
 |[],_,_,_,_,h=>⟨_,_,h⟩
 |t::ts,b,z,sem,par,h=>by
   obtain⟨s1,p1,h1⟩:=h.put t;exact ZR.fold ts h1
theorem Up(ts:List Tok):∃sem,zC (ts.foldl mM b0) sem/\(ts.foldl mM b0).out.map sem=cN ts:=by
 obtain⟨s1,p1,h1⟩:=ZR.fold ts ZR.start;obtain⟨hlen,_⟩:=h1.op.len;obtain⟨s2,h2⟩:=ZR.all (ts.foldl cA ⟨[],[]⟩).opn.length h1 (by omega)
 refine⟨s2,fun r x hr=>(h2.cl r x hr (by simp[ids])).1,?_⟩
 have hop:=h2.op;simp only[cN,Zp.all];generalize Zp.allG (zFb cA ⟨[],[]⟩ ts).opn.length (zFb cA ⟨[],[]⟩ ts)=z at *;obtain⟨zo,zf⟩:=z;cases zf with
 |cons f fs=>exact hop.elim
 |nil=>
   obtain⟨ks,e1,e2,_⟩:=hop;simp only[zCa,zAj]at e1;rw[e1];exact e2.symm
end Go.Abs.F
end
section
namespace Go.Abs.F
open Go.Proofs Go.RowKit
attribute [-simp] getElem?_pos zEb zEh
theorem P1{b:BS}(h:Bh b){x:Rec}(hx:x.attrs.length<=1000000000):Bh (b.add x):=by
 have hn:∀(r:Nat)(y:Rec),(b.recs++[x])[r]?=some y->y.attrs.length<=1000000000:=fun r y hr=>by
  rcases zAh.1 (zDa hr)with hm|hm
  ·obtain⟨i,hi⟩:=List.getElem?_of_mem hm
   exact h i y hi
  ·simp only[zAa,zAe,or_false]at hm
   subst hm;exact hx
 intro r y hr;unfold BS.add BS.link at hr;split at hr
 ·exact hn r y hr
 ·obtain⟨z,hz,rfl⟩:=dh hr
  split
  ·exact hn r z hz
  ·exact hn r z hz
theorem PZ{b:BS}(h:Bh b){t:Tok}(ht:t.attrs.length<=1000000000):Bh (mM b t):=by
 have ha:∀(o:List (Nat×Str)){x:Rec},x.attrs.length<=1000000000->Bh (BS.add ⟨b.recs,b.out,o⟩ x):=fun o x hx=>P1 (b:=⟨b.recs,b.out,o⟩) h hx;unfold mM;split
 ·simp only[BS.begin']
  split
  ·exact ha _ ht
  ·exact ha _ ht
 ·split
  ·split<;>exact h
  ·split
   ·unfold BS.chars'
    split
    ·exact h
    ·split
     ·split
      ·split
       ·intro r y hr
        obtain⟨z,hz,rfl⟩:=dh hr;split
        ·exact h r z hz
        ·exact h r z hz
       ·exact ha _ (by simp)
      ·exact h
     ·exact ha _ (by simp)
   ·split
    ·exact ha _ (by simp)
    ·exact h
noncomputable def yQ(M:Nat):Nat->BS->List Tok->HS->HS
 |_,_,[],s=>s
 |N,b,t::ts,s=>yQ M (N+1) (mM b t) ts (RW N M b t s)
theorem Cc{M:Nat}(hM:M<=10000000):∀(ts:List Tok)(N:Nat)(b:BS)(s:HS),dD N M s b->nH b->N+ts.length<=1000000->(∀t∈ts,t.text.length<=M/\t.attrs.length<=1000000000)->dD (N+ts.length) M (yQ M N b ts s) (ts.foldl mM b)
 |[],N,b,s,h,_,_,_=>h
 |t::ts,N,b,s,h,hx,hN,ht=>by
   simp only[zCf]at hN;have h1:=ht t (by simp)
   have hm:(N+1)*M<=100000000000000:=by
    have:(N+1)*M<=1000000*10000000:=Nat.mul_le_mul (by omega) hM
    omega
   have h2:=(BH h hx (by omega) h1.1 hm (by omega) h1.2).2
   have:=Cc hM ts (N+1) (mM b t) _ h2 (J5 hx t) (by omega) fun u hu=>ht u (by simp[hu])
   simp only[yQ,zCh,zCf];rw[show N+(ts.length+1)=N+1+ts.length by omega]
   exact this
theorem B4(M:Nat):dD 0 M ⟨[],.nil 1,.nil 1,[]⟩ b0:=
 ⟨⟨fun _=>0,fun _=>0,fun r x h=>by simp[b0]at h,.inl ⟨rfl,rfl⟩,.inl ⟨rfl,rfl⟩⟩,⟨fun r x h=>by simp[b0]at h,fun i h=>by simp[b0]at h,fun o h=>by simp[b0]at h,by simp[b0],by simp[b0],by simp[b0]⟩,t7.nil⟩
theorem EE(ts:List Tok)(hl:ts.length<=1000000)(ht:∀t∈ts,t.text.length<=10000000/\t.attrs.length<=1000000000)(hc:aj (cN ts)<=100000000):
 Fn Tryz.prog Dk [.seq 4 (ts.map Tok.v)] (.seq 5 ((cN ts).map Node.v)):=by
 obtain⟨sem,hs,ho⟩:=Up ts;have hL:=Cc (M:=10000000) (zEe _) ts 0 b0 ⟨[],.nil 1,.nil 1,[]⟩ (B4 _) (fun r x h=>by simp[b0]at h) (by omega) ht
 generalize hR:yQ 10000000 0 b0 ts ⟨[],.nil 1,.nil 1,[]⟩=R at *
 have hA:Bh (ts.foldl mM b0):=by
  have:∀(ts:List Tok)(b:BS),Bh b->(∀t∈ts,t.text.length<=10000000/\t.attrs.length<=1000000000)->Bh (ts.foldl mM b):=by
   intro ts
   induction ts with
   |nil=>exact fun b h _=>h
   |cons t ts ih=>exact fun b h hh=>ih _ (PZ h (hh t (by simp)).2) fun u hu=>hh u (by simp[hu])
  exact this ts b0 (fun r x h=>by simp[b0]at h) ht
 obtain⟨⟨a,own,k1⟩,k2,k3⟩:=hL;obtain⟨ms',j',n1,F,n2⟩:=A6 (L:=R.L) k1 k2 hs (by rw[ho];exact hc) (by omega) hA
 rw[ho]at n2;refine FnE.fn ?_;refine FnE.of_imageQ mixed Eg DV rfl fun hok=>?_;unfold tT;clear hok;have hN:=Hw [];simp(disch:=omega) [-zBa];refine ah [] 1 [0] (by simp) (by simp) (by simp) (by simp) hN (by simp) fun _ _=>?_
 simp(disch:=omega) [-zBa,hp,zFa]
 refine ay (fun(q:Nat×BS×HS)=>⟨[(3,.ptr 1 0),(7,.seq 4 (ts.map Tok.v)),(8,.int .i64 ts.length),(9,.int .i64 q.1)],q.2.2.h⟩)
  (fun q=>q.1<=ts.length/\dD q.1 10000000 q.2.2 q.2.1/\nH q.2.1/\yQ 10000000 q.1 q.2.1 (ts.drop q.1) q.2.2=R) (fun q=>ts.length-q.1) [] _ (0,b0,⟨[],.nil 1,.nil 1,[]⟩) rfl (by simp[hp,zFa]) ⟨Nat.zero_le _,B4 _,fun r x h=>by simp[b0]at h,hR⟩ ?_
 rintro⟨k,b,s⟩ ⟨hk,hls,htx,hr⟩ N hN;simp only at hk hls htx hr;obtain⟨f0,f1⟩:=Dq hls;rcases place ts k hk with⟨he,hd⟩|⟨hlt,t,hx,hd⟩<;>rw[hd]at hr
 ·simp only[yQ]at hr
  subst hr;obtain⟨m,d0,d1,dL⟩:=s;simp only at f0 f1 n1;rcases f0 with rfl|⟨k0,n0,rfl⟩<;>rcases f1 with rfl|⟨k1,n1',rfl⟩
  all_goals
   simp(disch:=omega) [-zBa,hp,he];refine ah [0] 2 [0,1,2] (by simp) (by simp) (by simp) (by simp) n1 (by simp) fun _ _=>?_
   simp(disch:=omega) [-zBa,hp];exact⟨_,F,[.seq 5 ((cN ts).map Node.v)],rfl,by simp[m6,n2],rfl⟩
 ·simp only[yQ]at hr
  have h1:=ht t (zDa hx);have hm:(k+1)*10000000<=100000000000000:=by omega
  obtain⟨p1,p2⟩:=BH hls htx (t:=t) (by omega) h1.1 hm (by omega) h1.2
  generalize RW k 10000000 b t s=s2 at *;obtain⟨f2,f3⟩:=Dq p2;obtain⟨m,d0,d1,dL⟩:=s;obtain⟨m2,d2,d3,dL2⟩:=s2;simp only at f0 f1 f2 f3;have hxv:(ts.map Tok.v)[k]?=some (.strct (lW t)):=by simp[hx,Tok.v,Tok.c,aM]
  rcases f0 with rfl|⟨k0,n0,rfl⟩<;>rcases f1 with rfl|⟨k1,n1',rfl⟩<;>rcases f2 with rfl|⟨k4,n4,rfl⟩<;>rcases f3 with rfl|⟨k5,n5,rfl⟩
  all_goals
   simp(disch:=omega) [-zBa,hp,hlt,hxv];refine ah [0] 2 [0,1,2] (by simp) (by simp) (by simp) (by simp) p1 (by simp) fun _ _=>?_
   simp(disch:=omega) [-zBa,hp];exact hN.out _<|Nx.mk (k+1,mM b t,⟨m2,_,_,dL2⟩) (by simp[hp]) ⟨by simp only;omega,p2,J5 htx t,hr⟩ (by simp only;omega)
end Go.Abs.F
end
