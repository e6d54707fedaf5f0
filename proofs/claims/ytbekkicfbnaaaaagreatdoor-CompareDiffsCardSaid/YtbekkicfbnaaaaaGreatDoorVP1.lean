/- Plain: the texts that are right: the document's answer and the program's. No condition. -/
import Derived.Test.YtbekkicfbnaaaaaGreatDoorVF1
import Derived.Lib.MapLaws
import Derived.Lib.TrimUEq
import Derived.Lib.ValidU
import Derived.Test.YtbekkicfbnaaaaaGreatDoorVW0
import Derived.Lib.IndexMore
import Derived.Test.YtbekkicfbnaaaaaGreatDoorVP7
import Derived.Test.YtbekkicfbnaaaaaGreatDoorVTh7
set_option linter.all false open List renaming reduceReplicate→zAa,length_cons→zAb,getD_cons_zero→zAc,getD_cons_succ→zAd,take_add_one→zAf,map_cons→zAg,length_drop→zAh,map_nil→zAi,mem_of_getElem?→zAj,eq_nil_of_length_eq_zero→zBa,take_succ_cons→zBb,replicate→zBc,drop_eq_getElem_cons→zBd,cons_append→zBe,getElem?_eq_getElem→zBf,take_zero→zBg,take_append_drop→zBh,length_filter_le→zBi,drop→zCe,all_cons→zCf,map_map→zCg,map→zCh
open Bool renaming false_eq_true→zAe
open Nat renaming reduceSub→zBj,lt_or_ge→zCa,le_trans→zCb,le_refl→zCd
open Option renaming not_isSome→zCc open Option renaming some→ś open Bool renaming true→ť,false→ğ open Go.Proofs.Tryz renaming prog→ŷ
section
set_option maxHeartbeats 4000000
set_option maxRecDepth 100000
namespace Go.Abs.F
open Go.Proofs
end Go.Abs.F
end
section
set_option maxHeartbeats 4000000
set_option maxRecDepth 100000
namespace Go.Abs.F
open Go.Proofs
attribute [-simp] getElem?_pos zCc zCg
theorem iw (s:Str):Fn ŷ jD [.str s,.str [42]] (.bool (cZ s).2):=by
 refine yoB jQ λho=>?_
 simp only [oks,ok,and_true] at ho
 by_cases hp:0 < s.length
 · obtain ⟨x,hx⟩:=av (l:=s) (k:=s.length - 1) (by omega)
   have hd:s.drop (s.length - 1)=[x]:=by
    grind[zBd,zBf,List.drop_eq_nil_iff]
   have e:((s.length:Int) - 1).toNat=s.length - 1:=by omega
   have hst:(cZ s).2=decide (x=42):=by
    simp only [cZ,hx]
    by_cases h:x.toNat=42
    · have:x=42:=by apply UInt8.toNat_inj.1; simpa using h
      simp [this]
    · have:¬x=42:=by rintro rfl; simp at h
      simp [h,this]
   rw [hst]
   simp (disch:=omega) [-zAa,e,hd]
   grind
 simp_all[zAa,cZ]
theorem qV(s:Str):Fn ŷ jF [.str s,.str [42]] (.tup [.str (cZ s).1,.bool (cZ s).2]):=by
 refine yoB jS λho=>?_;simp only[oks,ok,and_true]at ho;simp(disch:=omega) [-zAa];refine aa (iw s) rfl λ_=>?_;simp(disch:=omega) [-zAa];refine BrK.mk (λh=>?_) (λh=>?_)
 ·have hp:0<s.length:=by
   grind[cZ]
  have e:((s.length:Int)-1).toNat=s.length-1:=by omega
  have c1:1<=s.length:=hp;have c2:(s.length:Int)-1<=s.length:=by omega
  have hst:cZ s=(s.take (s.length-1),ť):=by
   grind[cZ]
  simp(disch:=omega) [-zAa,hst,e,c1,c2]
 ·have hst:cZ s=(s,ğ):=by
   grind[cZ]
  simp_all
theorem wZ(s:Str):Fn ŷ yE [.str s,.str [42]] (.tup [.str (cZ s).1,.bool (cZ s).2]):=by
 refine yoB yL λho=>?_;simp only[oks,ok,and_true]at ho;simp(disch:=omega) [-zAa];refine aa (qV s) rfl λ_=>?_;simp
theorem Ff(s:Str):Fn ŷ Ey [.str s] (.tup [.str (cZ s).1,.bool (cZ s).2,.bool (plain (cZ s).1)]):=by
 refine yoB EJ λho=>?_;simp only[oks,ok,and_true]at ho;simp(disch:=omega) [-zAa];refine aa (wZ s) rfl λ_=>?_;simp(disch:=omega) [-zAa];refine aa (La _) rfl λ_=>?_;simp
theorem Xl(s):dH s s=true:=by simp[dH]
theorem lG(pat nm:Str):Fn ŷ ME [.str pat,.str nm] (.bool (fits pat nm)):=by
 refine yoB Nr λho=>?_;simp only[oks,ok,and_true]at ho;simp(disch:=omega) [-zAa,fits];refine aa (Ff pat) rfl λ_=>?_;generalize(cZ pat).1=a at *;generalize(cZ pat).2=b at *;simp(disch:=omega) [-zAa]
 repeat' (first|(refine BrKd.mk (λh=>?_) (λh=>?_)<;>simp(disch:=omega) [*])|(refine BrK.mk (λh=>?_) (λh=>?_)<;>simp(disch:=omega) [*])|(refine aa (mZ _ _) rfl (λ_=>?_)<;>simp(disch:=omega) [*])|(refine aw (mZ _ _) rfl ?_<;>simp(disch:=omega) [*]))
 grind[Xl]
theorem zD(e:Allowed)(s:Str):Fn ŷ MD [e.v,.str s] (.tup [((dK e.rules s).getD .zero).v,.bool (dK e.rules s).isSome]):=by
 refine yoB Nq λho=>?_;simp only[oks,ok,and_true]at ho;have hlen:e.rules.length<=140737488355328:=by simp_all
 clear ho;simp(disch:=omega) [-zAa];generalize hr:dK e.rules s=r;refine ah (λk:Nat=>⟨[(1,.str s),(4,.ptr 0 0),(9,.seq 5 (e.rules.map Rule.v)),(10,.int .i64 e.rules.length),(11,.int .i64 k)],[ś (.box [.str [],.int .i64 0,.nil 1,.str [],.bool ğ])]⟩) (λk=>k<=e.rules.length/\dK (e.rules.drop k) s=r) (λk=>e.rules.length-k) [] _ 0 rfl (by simp[*]) (by simp[*]) ?_
 rintro k ⟨hk,hi⟩ N hN;rcases place e.rules k hk with⟨he,hd⟩|⟨hlt,x,hx,hd⟩<;>rw[hd]at hi<;>replace hi:=hid hi
 ·simp(disch:=omega) [-zAa,he]
  simp[<-hi.out,dK,Rule.zero]
 ·simp(disch:=omega) [-zAa,hx]
  refine aa (lG _ _) rfl λ_=>?_;simp(disch:=omega) [-zAa];refine BrK.mk (λh=>?_) (λh=>?_)
  ·simp(disch:=omega) [-zAa,hx]
   have hi:=hi.out;grind[dK]
  ·simp(disch:=omega) [-zAa]
   refine hN.out _<|Nx.mk (k+1) (by simp[*]) ⟨by omega,?_⟩ (by omega)
   have hi:=hi.out;simpa[dK,h]using hi
def Ip(p:Policy)(par:Str)(n:Node):Bool:=
 if par=[]then(if n.kind=2 then hasS p.top ja else if n.kind=3 then hasS p.top dU else decide (n.kind=1)&&((aJ p.elements n.name).isSome&&hasS p.top n.name))
 else match aJ p.elements par with
  |none=>ğ
  |some e=>if n.kind=2 then hasS e.kids ja else if n.kind=3 then hasS e.kids dU else decide (n.kind=1)&&((aJ p.elements n.name).isSome&&hasS e.kids n.name)
theorem H7(p)(par:Str)(n):Fn ŷ He [p.v,.str par,n.v] (.bool (Ip p par n)):=by
 refine yoA Hs ?_;simp(disch:=omega) [-zAa,Ip];refine BrKd.mk (λh=>?_) (λh=>?_)
 ·simp(disch:=omega) [-zAa,h]
  repeat' (first
   |(refine BrKd.mk (λh=>?_) (λh=>?_)<;>simp(disch:=omega) [*])
   |(refine BrK.mk (λh=>?_) (λh=>?_)<;>simp(disch:=omega) [*])
   |(refine ae (d8 p n.name) (by simp) (λ_=>?_)<;>simp(disch:=omega) [*])
   |(refine aa (f_slices_Contains_string p.top _) rfl (λ_=>?_)<;>simp(disch:=omega) [ja,dU, *]))
 ·simp(disch:=omega) [-zAa,h]
  refine ae (d8 p par) (by simp) λ_=>?_
  cases hf:aJ p.elements par with
  |none=>
    simp
  |some e=>
    simp(disch:=omega) [-zAa,hf]
    repeat' (first
     |(refine BrKd.mk (λh=>?_) (λh=>?_)<;>simp(disch:=omega) [*])
     |(refine BrK.mk (λh=>?_) (λh=>?_)<;>simp(disch:=omega) [*])
     |(refine ae (d8 p n.name) (by simp) (λ_=>?_)<;>simp(disch:=omega) [*])
     |(refine aa (f_slices_Contains_string e.kids _) rfl (λ_=>?_)<;>simp(disch:=omega) [ja,dU, *]))
structure Label where
 kind:Int
 element:Str
 name:Str
 many:Bool
 value:Str
 one:Bool
 two:Bool
 deriving DecidableEq
def Label.v(l:Label):V:=.strct [.int .i64 l.kind,.str l.element,.str l.name,.bool l.many,.str l.value,.bool l.one,.bool l.two]
def bA(s:Str):Bool:=(cZ s).2
def aC(p:Policy)(el:Str):List Rule:=((aJ p.elements el).getD .zero).rules
def aP(p q:Policy)(el:Str):List Str:=
 sd (((aC p el++aC q el).map Rule.name).filter λs=>!bA s)++sd (((aC p el++aC q el).map Rule.name).filter bA)
def ma(l:List Str)(name ex:Str):Bool:=l.all λo=>!((!bA o&&decide (o=ex))||((bA o&&decide (name.length<o.length))&&fits o ex))
def LX:Str:=[48,49,50,51,52,53,54,55,56,57,97,98,99,100,101,102,103,104,105,106,107,108,109,110,111,112,113,114,115,116,117,118,119,120,121,122,45]
def ZM(l:List Str)(name st:Str):Str->Str
 |[]=>[]
 |b::r=>if ma l name (st++[b])then st++[b]else ZM l name st r
def aG(l:List Str)(name:Str):Str:=
 if bA name then(if ma l name (name.take (name.length-1))then name.take (name.length-1)else ZM l name (name.take (name.length-1)) LX)else name
def dp(p:Policy)(el nm:Str):Option Constraint:=(dK (aC p el) nm).map Rule.value
def bD(p:Policy)(el nm s:Str):Bool:=match dp p el nm with
 |some c=>allows12 c s
 |none=>ğ
def uT(f g:Str->Bool)(f1 f2:Bool):Option (List Nat)->Prop
 |none=>∀s:Str,ep s->f s=f1->g s=f2->False
 |some w=>(∀u∈w,u<95)/\f (bK w)=f1/\g (bK w)=f2/\∀s:Str,ep s->f s=f1->g s=f2->¬FB s (bK w)
open Classical in
noncomputable def Dr(f g:Str->Bool)(f1 f2:Bool):Option (List Nat):=if h:∃r,uT f g f1 f2 r then Classical.choose h else none
theorem wY(s:Str):Fn ŷ yC [.str s,.str [42]] (.bool (bA s)):=by
 refine yoB yJ λho=>?_;simp only[oks,ok,and_true]at ho;simp(disch:=omega) [-zAa,bA];refine aa (iw s) rfl λ_=>?_;simp
theorem j4(s:Str):Fn ŷ RX [.str s] (.bool (bA s)):=by
 refine yoB SU λho=>?_;simp only[oks,ok,and_true]at ho;simp(disch:=omega) [-zAa];refine aa (wY s) rfl λ_=>?_;simp
theorem zH(p:Policy)(s:Str):Fn ŷ MQ [p.v,.str s] ((aJ p.elements s).getD .zero).v:=by
 refine yoA NG ?_;simp(disch:=omega) [-zAa];refine ae (d8 p s) (by simp) λ_=>?_
 simp
theorem nK(p)(el nm:Str):Fn ŷ RU [p.v,.str el,.str nm] (.tup [((dp p el nm).getD ⟨0,[],[]⟩).v,.bool (dp p el nm).isSome]):=by
 refine yoA SR ?_;simp(disch:=omega) [-zAa];refine ae (d8 p el) (by simp) λ_=>?_
 simp(disch:=omega) [-zAa,dp,aC];refine BrK.mk (λh=>?_) (λh=>?_)
 ·simp(disch:=omega) [-zAa]
  refine ae (zD ((aJ p.elements el).getD .zero) nm) (by simp) λ_=>?_
  simp(disch:=omega) [-zAa];cases dK ((aJ p.elements el).getD .zero).rules nm<;>simp[Rule.zero]
 simp_all[aJ,zAa,Allowed.zero,dK]
theorem w8(p:Policy)(hp:p.elements.length<=1000):Fn ŷ Jz [p.v] (.seq 1 ((srt (p.elements.map Allowed.name)).map .str)):=by
 refine yoE J7 ?_;simp(disch:=omega) [-zAa];refine ah (λk:Nat=>⟨[(3,.ref 0 k),(7,.seq 3 (p.elements.map Allowed.v)),(8,.int .i64 p.elements.length),(9,.int .i64 k)],[ś (.arr aA 1 (((p.elements.take k).map Allowed.name).map .str))]⟩) (λk=>k<=p.elements.length) (λk=>p.elements.length-k) [.r 3 aA 1] _ 0 rfl (by simp[*]) (by simp) ?_
 rintro k hk N hN;rcases zCa k p.elements.length with hlt|hge
 ·obtain⟨x,hx⟩:=av hlt
  simp(disch:=omega) [-zAa,hx];exact hN.out _<|Nx.mk (k+1) (by simp[zAf,hx]) (by omega) (by omega)
 ·obtain rfl:k=p.elements.length:=by omega
  simp(disch:=omega) [-zAa];have hso:=lC (p.elements.map Allowed.name) (by simp;omega)
  simp only[List.length_map]at hso;refine am [0] 1 [0] (by simp) (by simp) (by simp) (by simp) hso (by simp) λ_ _=>?_
  simp_all[srt,Allowed.name,fL,zAa]
theorem HZ(a b:List Str)(h:a.length+b.length<=1000000):
 FnH ŷ kP [] [.seq 1 [.seq 1 (a.map .str),.seq 1 (b.map .str)]] [] (.ref 0 (a++b).length) [ś (.arr aA 1 ((a++b).map .str))]:=by
 refine yoH kV ?_;simp(disch:=omega) [-zAa];refine ah (λk:Nat=>⟨[(0,.seq 1 [.seq 1 (a.map .str),.seq 1 (b.map .str)]),(3,.int .i64 (if k=0 then 0 else if k=1 then(a.length:Int)else(a.length+b.length:Nat))),(9,.seq 1 [.seq 1 (a.map .str),.seq 1 (b.map .str)]),(10,.int .i64 2),(11,.int .i64 k)],[]⟩) (λk=>k<=2) (λk=>2-k) [] _ 0 rfl (by simp) (by simp) ?_
 rintro k hk N hN;have h3:k=0\/k=1\/k=2:=by omega
 rcases h3 with rfl|rfl|rfl
 ·simp(disch:=omega) [-zAa]
  exact hN.out _<|Nx.mk 1 (by simp) (by omega) (by omega)
 ·simp(disch:=omega) [-zAa]
  exact hN.out _<|Nx.mk 2 (by simp) (by omega) (by omega)
 ·simp(disch:=omega) [-zAa]
  refine am [] 0 [] (by simp) (by simp) (by simp) (by simp) (OC (a.length+b.length) h) (by simp) λ_ _=>?_
  simp(disch:=omega) [-zAa];refine ah (λk:Nat=>⟨[(6,.ref 0 (if k=0 then 0 else if k=1 then a.length else a.length+b.length)),(25,.seq 1 [.seq 1 (a.map .str),.seq 1 (b.map .str)]),(26,.int .i64 2),(27,.int .i64 k)],[ś (.arr aA 1 ((if k=0 then[]else if k=1 then a else a++b).map .str))]⟩) (λk=>k<=2) (λk=>2-k) [] _ 0 rfl (by simp) (by simp) ?_
  rintro k hk N hN;have h3:k=0\/k=1\/k=2:=by omega
  rcases h3 with rfl|rfl|rfl
  ·simp(disch:=omega) [-zAa]
   exact hN.out _<|Nx.mk 1 (by simp) (by omega) (by omega)
  ·simp(disch:=omega) [-zAa]
   exact hN.out _<|Nx.mk 2 (by simp) (by omega) (by omega)
  simp
theorem qm(l)(hl:l.length<=1000000)(name ex:Str):FnH ŷ qe [1,2] [.str ex,.ptr 0 0,.ptr 1 0] [ś (.box [.seq 1 (l.map .str)]),ś (.box [.str name])] (.bool (ma l name ex)) [ś (.box [.seq 1 (l.map .str)]),ś (.box [.str name])]:=by
 refine yoH CO ?_;simp(disch:=omega) [-zAa];obtain⟨R,hR⟩:∃R,R=ma l name ex:=⟨_,rfl⟩;rw[<-hR];refine ah (λk:Nat=>⟨[(0,.str ex),(1,.ptr 0 0),(2,.ptr 1 0),(7,.seq 1 (l.map .str)),(8,.int .i64 l.length),(9,.int .i64 k)],[ś (.box [.seq 1 (l.map .str)]),ś (.box [.str name])]⟩) (λk=>k<=l.length/\ma (l.drop k) name ex=R) (λk=>l.length-k) [] _ 0 rfl (by simp) (by simp[hR]) ?_
 rintro k ⟨hk,hi⟩ N hN;rcases place l k hk with⟨he,hd⟩|⟨hlt,x,hx,hd⟩<;>rw[hd]at hi<;>replace hi:=hid hi
 ·simp(disch:=omega) [-zAa,he]
  have hi:=hi.out;simpa[ma]using hi
 ·simp(disch:=omega) [-zAa,hx]
  refine aa (j4 x) rfl λ_=>?_;simp(disch:=omega) [-zAa];have hi:=hi.out;simp only[ma,zCf]at hi;replace hi:=hid hi
  repeat' (first
   |(refine BrKd.mk (λh=>?_) (λh=>?_)<;>simp(disch:=omega) [*])
   |(refine BrK.mk (λh=>?_) (λh=>?_)<;>simp(disch:=omega) [*])
   |(refine aa (j4 x) rfl (λ_=>?_)<;>simp(disch:=omega) [*])
   |(refine aa (lG x ex) rfl (λ_=>?_)<;>simp(disch:=omega) [*]))
  all_goals first
   |(refine hN.out _<|Nx.mk (k+1) (by simp[*]) ⟨by omega,?_⟩ (by omega);have hi:=hi.out;grind[ma])
   |(have hi:=hi.out;simp_all)
   |(subst_vars;have hi:=hi.out;simp_all)
theorem P3{s}(h:bA s=ť):0<s.length:=by
 grind[bA,cZ]
theorem Xg:∀k,k<37->Lt LX k=((LX.getD k 0).toNat,1):=by decide
theorem Ib(l)(hl:l.length<=1000000)(name:Str):Fn ŷ Hl [.seq 1 (l.map .str),.str name] (.str (aG l name)):=by
 refine Fn.of_imageE mixed HD.1 HD.2 rfl λho=>?_;simp only[oks,ok,and_true]at ho;have hnl:name.length<=4611686018427387904:=by have:=ho.2;omega
 clear ho;simp(disch:=omega) [-zAa];refine aa (j4 name) rfl λ_=>?_;simp(disch:=omega) [-zAa];refine BrK.mk (λh=>?_) (λh=>?_)
 ·have hp:=P3 h
  have c1:((name.length:Int)-1).toNat=name.length-1:=by omega
  have c2:1<=name.length:=hp;have c3:(name.length:Int)-1<=name.length:=by omega
  simp(disch:=omega) [-zAa,c1,c2,c3];refine am [1,2] 2 [0,1] (by simp) (by simp) (by simp) (by simp) (qm l hl name (name.take (name.length-1))) (by simp) λ_ _=>?_
  simp(disch:=omega) [-zAa];refine BrK.mk (λh2=>?_) (λh2=>?_)
  ·simp_all[zAa,aG]
  ·simp(disch:=omega) [-zAa]
   have h2':ma l name (name.take (name.length-1))=false:=by simpa using h2
   obtain⟨R,hR⟩:∃R,R=aG l name:=⟨_,rfl⟩;rw[<-hR];rw[aG,if_pos h,h2']at hR;simp only[zAe,if_false]at hR;obtain⟨st,hst⟩:∃st,st=name.take (name.length-1):=⟨_,rfl⟩;rw[<-hst]at hR;have hb:LX.length=37:=rfl;obtain⟨B,hB⟩:∃B,B=LX:=⟨_,rfl⟩;have hdc:=Xg;rw[<-hB]at hR hb hdc;have hB2:([48,49,50,51,52,53,54,55,56,57,97,98,99,100,101,102,103,104,105,106,107,108,109,110,111,112,113,114,115,116,117,118,119,120,121,122,45]:Str)=B:=by rw[hB];rfl
   have hlt:∀x∈B,x.toNat<128:=by rw[hB];decide
   clear hB;rw[hB2,<-hst];refine ah (λk:Nat=>⟨[(5,.fn (.func qe) [] [.ptr 0 0,.ptr 1 0]),(6,.str st),(23,.ref 2 0)],[ś (.box [.seq 1 (l.map .str)]),ś (.box [.str name]),ś (.itr B k)]⟩) (λk=>k<=37/\ZM l name st (B.drop k)=R) (λk=>37-k) [] _ 0 rfl (by simp) (by simp[hR]) ?_
   rintro k ⟨hk,hi⟩ N hN;by_cases hk2:k<37
   ·obtain⟨b,hx⟩:=av (l:=B) (k:=k) (by omega)
    have hd:B.drop k=b::B.drop (k+1):=by
     grind[zBd,zBf]
    have hdk:=hdc k hk2;have hgb:B.getD k 0=b:=by simp[List.getD,hx]
    rw[hgb]at hdk;have hb8:=hlt b (zAj hx);rw[hd]at hi;simp only[ZM]at hi;replace hi:=hid hi;have hsl:st.length+1<=4611686018427387904:=by rw[hst];simp;omega
    have e1:UInt8.ofNat ((b.toNat:Int)).toNat=b:=by simp
    have e2:aeg (b.toNat:Int)=ś (.str [b]):=by simp_all
    simp(disch:=omega) [-zAa,hb,hk2,hdk,e2];refine am [1,2] 2 [0,1] (by simp) (by simp) (by simp) (by simp) (qm l hl name (st++[b])) (by simp) λ_ _=>?_
    simp(disch:=omega) [-zAa];refine BrK.mk (λh3=>?_) (λh3=>?_)
    ·simp(disch:=omega) [-zAa,e2]
     have hi:=hi.out;simpa[h3]using hi
    ·simp(disch:=omega) [-zAa]
     have hi:=hi.out;have h3':ma l name (st++[b])=false:=by simpa using h3
     rw[h3']at hi;exact hN.out _<|Nx.mk (k+1) (by simp) ⟨by omega,by simpa using hi⟩ (by omega)
   simp_all[zAa,List.drop_of_length_le,ZM]
 simp_all[bA,zAa,aG]
def eu(l:List Rule):List Str:=(l.map Rule.name).filter λs=>!bA s
def i4(l:List Rule):List Str:=(l.map Rule.name).filter bA
theorem Yk(l)(r):eu (l++[r])=if bA r.name then eu l else eu l++[r.name]:=by
 grind[eu,bA]
theorem ab5(l)(r):i4 (l++[r])=if bA r.name then i4 l++[r.name]else i4 l:=by
 grind[i4,bA]
theorem AK(l):(eu l).length<=l.length:=by grind[eu,zCb,zBi]
theorem Et(l):(i4 l).length<=l.length:=by grind[i4,zCb,zBi]
theorem Fr(l):(dd l).length<=l.length:=by
 cases l with
 |nil=>simp[dd]
 |cons x r=>
   have:∀(r:List Str)(p:Str),(r6 p r).length<=r.length:=λr=>by
    induction r with
    |nil=>intro p;simp[r6]
    |cons y r ih=>grind[r6]
   grind[dd]
theorem xh(p q)(el)(hp:(aC p el).length<=1000)(hq:(aC q el).length<=1000):Fn ŷ JH [p.v,q.v,.str el] (.seq 1 ((aP p q el).map .str)):=by
 refine yoE Kk ?_;simp(disch:=omega) [-zAa];refine az (zH p el) (by simp) ?_
 simp(disch:=omega) [-zAa];refine az (zH q el) (by simp) ?_
 have hc:aP p q el=sd (eu (aC p el++aC q el))++sd (i4 (aC p el++aC q el)):=rfl;rw[hc];simp only[aC]at *;generalize(aJ p.elements el).getD .zero=a at *;generalize(aJ q.elements el).getD .zero=b at *;clear hc;simp(disch:=omega) [-zAa];obtain⟨es,hes⟩:∃es,es=[a,b]:=⟨_,rfl⟩;have he2:es.length=2:=by rw[hes];rfl
 have hfl:a.rules++b.rules=es.flatMap Allowed.rules:=by rw[hes];simp
 have her:∀e∈es,e.rules.length<=1000:=by simp_all
 have hV:([a.v,b.v]:List V)=es.map Allowed.v:=by rw[hes];rfl
 rw[hfl];simp only[Allowed.v]at hV
 refine ah (λk:Nat=>⟨[(7,.ref 0 (eu ((es.take k).flatMap Allowed.rules)).length),(8,.ref 1 (i4 ((es.take k).flatMap Allowed.rules)).length),(19,.seq 3 (es.map Allowed.v)),(20,.int .i64 2),(21,.int .i64 k)],[ś (.arr aA 1 ((eu ((es.take k).flatMap Allowed.rules)).map .str)),ś (.arr aA 1 ((i4 ((es.take k).flatMap Allowed.rules)).map .str))]⟩)
  (λk=>k<=2) (λk=>2-k) [.r 7 aA 1,.r 8 aA 1] _ 0 rfl (by simp_all[eu,i4]) (by simp) ?_
 clear hV;rintro k hk N hN
 have hpre:((es.take k).flatMap Allowed.rules).length<=1000*k:=by
  have:∀(m:Nat),((es.take m).flatMap Allowed.rules).length<=1000*m:=λm=>by
   induction m with
   |zero=>simp
   |succ m ih=>
     grind[zAf,m,zAj]
  exact this k
 rcases zCa k 2 with hlt|hge
 ·obtain⟨e,he⟩:=av (l:=es) (k:=k) (by omega)
  have hel:=her e (zAj he);have htk:(es.take (k+1)).flatMap Allowed.rules=(es.take k).flatMap Allowed.rules++e.rules:=by simp[zAf,he]
  generalize(es.take k).flatMap Allowed.rules=pre at *;simp(disch:=omega) [-zAa,he]
  refine ah (λj:Nat=>⟨[(7,.ref 0 (eu (pre++e.rules.take j)).length),(8,.ref 1 (i4 (pre++e.rules.take j)).length),(19,.seq 3 (es.map Allowed.v)),(20,.int .i64 2),(21,.int .i64 k),(26,.seq 5 (e.rules.map Rule.v)),(27,.int .i64 e.rules.length),(28,.int .i64 j)],[ś (.arr aA 1 ((eu (pre++e.rules.take j)).map .str)),ś (.arr aA 1 ((i4 (pre++e.rules.take j)).map .str))]⟩)
   (λj=>j<=e.rules.length) (λj=>e.rules.length-j) [] _ 0 rfl (by simp) (by simp) ?_
  rintro j hj N' hN';have g1:=AK (pre++e.rules.take j);have g2:=Et (pre++e.rules.take j);simp only[List.length_append,List.length_take]at g1 g2;rcases zCa j e.rules.length with hlt2|hge2
  ·obtain⟨x,hx⟩:=av hlt2
   have ht2:pre++e.rules.take (j+1)=(pre++e.rules.take j)++[x]:=by simp[zAf,hx]
   have p1:=Yk (pre++e.rules.take j) x;have p2:=ab5 (pre++e.rules.take j) x;rw[<-ht2]at p1 p2;generalize eu (pre++e.rules.take j)=P1 at *;generalize i4 (pre++e.rules.take j)=P2 at *;simp(disch:=omega) [-zAa,hx];refine aa (j4 x.name) rfl λ_=>?_;simp(disch:=omega) [-zAa];refine BrK.mk (λh=>?_) (λh=>?_)
   ·rw[if_pos h]at p1 p2
    simp(disch:=omega) [-zAa];exact hN'.out _<|Nx.mk (j+1) (by simp[p1,p2]) (by omega) (by omega)
   ·have h':bA x.name=false:=by simpa using h
    rw[h']at p1 p2;simp only[zAe,if_false]at p1 p2;simp(disch:=omega) [-zAa];exact hN'.out _<|Nx.mk (j+1) (by simp[p1,p2]) (by omega) (by omega)
  ·obtain rfl:j=e.rules.length:=by omega
   simp only[List.take_length]at *;simp(disch:=omega) [-zAa];exact hN.out _<|Nx.mk (k+1) (by simp[htk]) (by omega) (by omega)
 ·obtain rfl:k=2:=by omega
  have hta:es.take 2=es:=List.take_of_length_le (by omega)
  rw[hta]at hpre⊢;generalize es.flatMap Allowed.rules=rs at *;have g1:=AK rs;have g2:=Et rs;have k1:=Fr (srt (eu rs));have k2:=Fr (srt (i4 rs));have s1:=lC (eu rs) (by omega)
  have s2:=lC (i4 rs) (by omega)
  have c1:=k9 (srt (eu rs)) (by rw[fL];omega)
  have c2:=k9 (srt (i4 rs)) (by rw[fL];omega)
  rw[fL]at c1 c2 k1 k2;have l1:=fL (eu rs);have l2:=fL (i4 rs);simp only[sd];generalize eu rs=A at *;generalize i4 rs=B at *;simp(disch:=omega) [-zAa];refine am [0] 1 [0] (by simp) (by simp) (by simp) (by simp) s1 (by simp) λ_ _=>?_
  simp(disch:=omega) [-zAa];refine am [0] 1 [1] (by simp) (by simp) (by simp) (by simp) s2 (by simp) λ_ _=>?_
  simp(disch:=omega) [-zAa];refine am [] 0 [0] (by simp) (by simp) (by simp) (by simp) c1 (by simp) λ_ _=>?_
  simp(disch:=omega) [-zAa,l1,l2];refine am [] 0 [1] (by simp) (by simp) (by simp) (by simp) c2 (by simp) λ_ _=>?_
  simp(disch:=omega) [-zAa,l1,l2]
end Go.Abs.F
end
section
set_option maxHeartbeats 4000000
set_option maxRecDepth 100000
namespace Go.Abs.F
open Go.Proofs Go.Aut
attribute [-simp] getElem?_pos zCc zCg
structure AccF (f:Str->Bool) (a:Aut):Prop where
 ok:a.ok
 n:a.n<=500
 acc:∀w:List Nat,(∀u∈w,u<95)->a.F (w.foldl a.δ 0)=f (bK w)
theorem AccF.flip{f a}(h:AccF f a){w}(hw:∀u∈w,u<95)(b):(flip b a).F (w.foldl a.δ 0)=ť↔f (bK w)=b:=by
 rw[afW h.ok (QW h.ok w h.ok.pos hw),h.acc w hw]
theorem ai3{c x a}(hc:GoodC c x)(ha:qB x a):AccF (allows12 c) a:=
 ⟨ha.ok.1,ha.ok.2,λw hw=>D0 (by have:=aag hc ha hw ť;grind[Go.Abs.flip])⟩
def tG:Aut:=⟨[zBc 95 0],[ğ]⟩
theorem adc:tG.ok:=by
 refine⟨by decide,by decide,?_⟩
 intro r hr;simp_all[tG,Aut.n]
theorem agc(q):tG.F q=false:=by
 show fin [ğ] q=ğ
 cases q<;>simp[fin]
theorem aah:AccF (λ_=>ğ) tG:=⟨adc,by decide,λw hw=>agc _⟩
theorem T8(b):Fn ŷ RS [.bool b] (.strct (xS [zBc 95 0] [b])):=by
 refine yoA SL ?_;simp_all[zAa,xS,zV]
theorem W4:Fn ŷ Vw [] (.strct (xS [zBc 95 0] [ğ])):=by
 refine yoA V8 ?_;simp(disch:=omega) [-zAa];refine ae (T8 ğ) (by simp) λ_=>?_
 simp_all[zAa,xS]
theorem Dq{f g a b}(ha:AccF f a)(hb:AccF g b)(f1 f2):
 ∃r,Fn ŷ sY [.strct (Aut.c (Go.Abs.flip f1 a)),.strct (Aut.c (Go.Abs.flip f2 b))] (yA r)/\uT f g f1 f2 r/\∀w,r=ś w->w.length<250001:=by
 obtain⟨r,hr,hI⟩:=aaF (iG (f:=f1) ha.ok) (iG (f:=f2) hb.ok) λx y=>x&&y;have hfn:=Dk (iG (f:=f1) ha.ok) (iG (f:=f2) hb.ok) (by rw[wT];exact ha.n) (by rw[wT];exact hb.n) r hr
 have key:∀w:List Nat,(∀u∈w,u<95)->(kY (Go.Abs.flip f1 a) (Go.Abs.flip f2 b) (λx y=>x&&y) (w.foldl (d4 (Go.Abs.flip f1 a) (Go.Abs.flip f2 b)) (0,0))=ť↔(f (bK w)=f1/\g (bK w)=f2)):=λw hw=>by
  rw[IX,kY,TE,TE,Bool.and_eq_true,ha.flip hw,hb.flip hw]
 refine⟨r,hfn,?_,λw hw=>?_⟩
 ·cases r with
  |none=>
    intro s hs k1 k2;have h3:=hI (sw s) (pT hs);grind[sw,pT,ru]
  |some w=>
    obtain⟨k1,k2⟩:=(key w hI.1).1 hI.2.1;refine⟨hI.1,k1,k2,λs hs g1 g2 hah=>?_⟩;exact hI.2.2 (sw s) (pT hs) ((key (sw s) (pT hs)).2 (by grind[ru])) (QN hs hI.1 hah)
 ·subst hw
  have hab:a.n*b.n<=250000:=zCb (Nat.mul_le_mul ha.n hb.n) (by decide)
  have e1:=iG (f:=f1) ha.ok;have e2:=iG (f:=f2) hb.ok;have hn1:(Go.Abs.flip f1 a).n=a.n:=wT;have hn2:(Go.Abs.flip f2 b).n=b.n:=wT;obtain⟨v,g1,g2,g3,g4⟩:=XW (step:=d4 (Go.Abs.flip f1 a) (Go.Abs.flip f2 b)) (D:=λq=>q.1<(Go.Abs.flip f1 a).n/\q.2<(Go.Abs.flip f2 b).n) (λq c hq hc=>⟨e1.lt hq.1 hc,e2.lt hq.2 hc⟩) (N:=(Go.Abs.flip f1 a).n*(Go.Abs.flip f2 b).n) (λl k1 k2=>lQ k2 k1) (p:=(0,0)) ⟨e1.pos,e2.pos⟩ w.length w (zCd _) hI.1;have h5:=hI.2.2 v g3 (by rw[g4];exact hI.2.1)
  have h6:¬v.length<w.length:=λh=>h5 (.inl h);grind
theorem agb:Aut.c tG=xS [zBc 95 0] [ğ]:=by rw[Aut.c_eq];simp[tG]
theorem aa2{o}(h:∀c,o=ś c->∃x,GoodC c x){f}(hf:∀s,f s=(o.map λc=>allows12 c s).getD ğ):
 ∃a,AccF f a/\(∀c,o=ś c->Fn ŷ Gd [c.v] (.strct (Aut.c a)))/\(o=none->a=tG):=by
 cases o with
 |none=>
   have:f=λ_=>false:=funext λs=>by rw[hf];rfl
   exact⟨tG,by rw[this];exact aah,(λc h=>by cases h),λ_=>rfl⟩
 |some c=>
   obtain⟨x,hx⟩:=h c rfl;obtain⟨a,ha⟩:=hx.aut;have:f=allows12 c:=funext λs=>by rw[hf];rfl
   exact⟨a,by grind[ai3],(λd h=>by grind[xb]),λh=>by cases h⟩
theorem xf(p q)(el nm)(hp:∀c,dp p el nm=ś c->∃x,GoodC c x)(hq:∀c,dp q el nm=ś c->∃x,GoodC c x):
 ∃r0 r1 r2 r3,uT (bD p el nm) (bD q el nm) ť ť r0/\uT (bD p el nm) (bD q el nm) ť ğ r1/\uT (bD p el nm) (bD q el nm) ğ ť r2/\uT (bD p el nm) (bD q el nm) ğ ğ r3/\(∀r∈[r0,r1,r2,r3],∀w,r=ś w->w.length<250001)/\
   Fn ŷ wb [p.v,q.v,.str el,.str nm] (.strct [.str (cg r0),.str (cg r1),.str (cg r2),.str (cg r3)]):=by
 have eP:∀c,dp p el nm=ś c->bD p el nm=allows12 c:=λc h=>funext λs=>by simp[bD,h]
 have eQ:∀c,dp q el nm=ś c->bD q el nm=allows12 c:=λc h=>funext λs=>by simp[bD,h]
 by_cases hb:(∃c,dp p el nm=ś c)/\(∃d,dp q el nm=ś d)
 ·obtain⟨⟨c,hc⟩,d,hd⟩:=hb
  obtain⟨x,hx⟩:=hp c hc;obtain⟨y,hy⟩:=hq d hd;obtain⟨r0,r1,r2,r3,c0,c1,c2,c3,hl,hF⟩:=T6 hx hy;rw[eP c hc,eQ d hd];have conv:∀f1 f2 r,FF c d f1 f2 r->uT (allows12 c) (allows12 d) f1 f2 r:=λf1 f2 r h=>by cases r<;>exact h
  refine⟨r0,r1,r2,r3,conv _ _ _ c0,conv _ _ _ c1,conv _ _ _ c2,conv _ _ _ c3,hl,?_⟩
  have f1:=nK p el nm;have f2:=nK q el nm;rw[hc]at f1;rw[hd]at f2;simp only[Option.getD_some,Option.isSome_some]at f1 f2;clear eP eQ hp hq hx hy c0 c1 c2 c3 hl conv hc hd
  generalize cg r0=s0 at *;generalize cg r1=s1 at *;generalize cg r2=s2 at *;generalize cg r3=s3 at *;refine yoA wC ?_;unfold pL;simp(disch:=omega) [-zAa];refine ae f1 (by simp) λ_=>?_
  simp(disch:=omega) [-zAa];refine ae f2 (by simp) λ_=>?_
  simp(disch:=omega) [-zAa];refine aa hF rfl λ_=>?_;simp
 ·obtain⟨a,ha,h1,z1⟩:=aa2 hp (f:=bD p el nm) λs=>by grind[bD,dp]
  obtain⟨b,hb',h2,z2⟩:=aa2 hq (f:=bD q el nm) λs=>by grind[bD,dp]
  obtain⟨r0,k0,c0,l0⟩:=Dq ha hb' ť ť;obtain⟨r1,k1,c1,l1⟩:=Dq ha hb' ť ğ;obtain⟨r2,k2,c2,l2⟩:=Dq ha hb' ğ ť;obtain⟨r3,k3,c3,l3⟩:=Dq ha hb' ğ ğ;refine⟨r0,r1,r2,r3,c0,c1,c2,c3,λr hr=>?_,?_⟩
  ·grind
  have n1:=yp ha.ok ha.n;have n2:=yp hb'.ok hb'.n;have hE:=W4;rw[<-agb]at hE;have y1:dp p el nm=none->Aut.c a=Aut.c tG:=λh=>by rw[z1 h]
  have y2:dp q el nm=none->Aut.c b=Aut.c tG:=λh=>by rw[z2 h]
  have f1:=nK p el nm;have f2:=nK q el nm;simp only[Go.Abs.flip,if_true,zAe,if_false]at k0 k1 k2 k3;clear c0 c1 c2 c3 ha hb' hp hq eP eQ z1 z2;have e1:(vV a).next=a.next:=rfl;have e2:(vV b).next=b.next:=rfl;simp only[Aut.c,fN,TG,e1,e2]at h1 h2 n1 n2 k0 k1 k2 k3 y1 y2 hE;obtain⟨A,hA⟩:∃A,A=a.next.map di:=⟨_,rfl⟩;obtain⟨A',hA'⟩:∃A,A=a.final.map V.bool:=⟨_,rfl⟩;obtain⟨A2,hA2⟩:∃A,A=(vV a).final.map V.bool:=⟨_,rfl⟩;obtain⟨B,hB⟩:∃A,A=b.next.map di:=⟨_,rfl⟩;obtain⟨B',hB'⟩:∃A,A=b.final.map V.bool:=⟨_,rfl⟩;obtain⟨B2,hB2⟩:∃A,A=(vV b).final.map V.bool:=⟨_,rfl⟩;obtain⟨E,hE1⟩:∃A,A=tG.next.map di:=⟨_,rfl⟩;obtain⟨E',hE2⟩:∃A,A=tG.final.map V.bool:=⟨_,rfl⟩;rw[<-hA,<-hA']at h1 n1 y1;rw[<-hB,<-hB']at h2 n2 y2;rw[<-hA2]at n1;rw[<-hB2]at n2;rw[<-hA,<-hA',<-hB,<-hB']at k0;rw[<-hA,<-hA',<-hB,<-hB2]at k1;rw[<-hA,<-hA2,<-hB,<-hB']at k2;rw[<-hA,<-hA2,<-hB,<-hB2]at k3;rw[<-hE1,<-hE2]at hE y1 y2;clear e1 e2 hA hA' hA2 hB hB' hB2 hE1 hE2;obtain⟨w0,o0,p0,q0,m0⟩:=lK r0 l0;obtain⟨w1,o1,p1,q1,m1⟩:=lK r1 l1;obtain⟨w2,o2,p2,q2,m2⟩:=lK r2 l2;obtain⟨w3,o3,p3,q3,m3⟩:=lK r3 l3;rw[p0]at k0;rw[p1]at k1;rw[p2]at k2;rw[p3]at k3;obtain⟨s0,hs0⟩:∃s,s=cg r0:=⟨_,rfl⟩;obtain⟨s1,hs1⟩:∃s,s=cg r1:=⟨_,rfl⟩;obtain⟨s2,hs2⟩:∃s,s=cg r2:=⟨_,rfl⟩;obtain⟨s3,hs3⟩:∃s,s=cg r3:=⟨_,rfl⟩;rw[<-hs0,<-hs1,<-hs2,<-hs3];rw[q0]at hs0;rw[q1]at hs1;rw[q2]at hs2;rw[q3]at hs3;clear p0 p1 p2 p3 q0 q1 q2 q3 l0 l1 l2 l3;refine yoA wC ?_;unfold pL;simp(disch:=omega) [-zAa];refine ae f1 (by simp) λ_=>?_
  simp(disch:=omega) [-zAa];refine ae f2 (by simp) λ_=>?_
  clear f1 f2;generalize dp p el nm=o at *;generalize dp q el nm=o' at *;rcases o with _|c<;>rcases o' with _|d
  rotate_left 3
  ·simp_all
  all_goals
   simp(disch:=omega) [-zAa];refine ae hE (by simp) λ_=>?_
   simp(disch:=omega) [-zAa];refine ae hE (by simp) λ_=>?_
   simp(disch:=omega) [-zAa]
   first|refine ae (h1 _ rfl) (by simp) λ_=>?_ |refine ae (h2 _ rfl) (by simp) λ_=>?_ |skip
   try simp(disch:=omega) [-zAa]
   refine ah (λk:Nat=>⟨[(8,.ptr 0 0),(13,.ptr 1 0),(14,.ptr 2 0),(15,.ptr 3 0),(50,nV k)],
    [ś (.box [.str [],.str [],.str [],.str []]),ś (.box [.seq 1 A,.seq 1 A']),ś (.box [.seq 1 B,.seq 1 B']),ś (.box [upS k 0 s0,upS k 1 s1,upS k 2 s2,upS k 3 s3])]⟩) (λk=>k<=4) (λk=>4-k) [] _ 0 rfl
    (by simp_all[upS]) (by simp) ?_
   clear y1 y2 h1 h2 hE;intro k hk N hN;have hkk:k=0\/k=1\/k=2\/k=3\/k=4:=by omega
   rcases hkk with rfl|rfl|rfl|rfl|rfl
   ·simp(disch:=omega) [-zAa,upS]
    refine cd ⟨[(8,.ptr 0 0),(13,.ptr 1 0),(14,.ptr 2 0),(15,.ptr 3 0),(16,.int .i64 0),(17,.ptr 4 0),(18,.ptr 5 0),(50,.int .i64 0)],[ś (.box [.str [],.str [],.str [],.str []]),ś (.box [.seq 1 A,.seq 1 A']),ś (.box [.seq 1 B,.seq 1 B']),ś (.box [.str [],.str [],.str [],.str []]),ś (.box [.seq 1 A,.seq 1 A']),ś (.box [.seq 1 B,.seq 1 B'])]⟩ (λF hF=>?_) ?_
    ·try simp at hF
     repeat' (first
      |with_reducible exact hF
      |refine QU.mk ?_ ?_
      |simp_all)
    simp(disch:=omega) [-zAa];refine aa k0 rfl λ_=>?_;cases o0 with
    |true=>
      simp(disch:=omega) [-zAa];exact hN.out _<|Nx.mk 1 (by simp[upS,hs0]) (by simp) (by simp)
    |false=>
      simp(disch:=omega) [-zAa];exact hN.out _<|Nx.mk 1 (by simp[upS,hs0]) (by simp) (by simp)
   ·simp(disch:=omega) [-zAa,upS]
    refine cd ⟨[(8,.ptr 0 0),(13,.ptr 1 0),(14,.ptr 2 0),(15,.ptr 3 0),(16,.int .i64 1),(17,.ptr 4 0),(18,.ptr 5 0),(50,.int .i64 1)],[ś (.box [.str [],.str [],.str [],.str []]),ś (.box [.seq 1 A,.seq 1 A']),ś (.box [.seq 1 B,.seq 1 B']),ś (.box [.str s0,.str [],.str [],.str []]),ś (.box [.seq 1 A,.seq 1 A']),ś (.box [.seq 1 B,.seq 1 B'])]⟩ (λF hF=>?_) ?_
    ·try simp at hF
     repeat' (first
      |with_reducible exact hF
      |refine QU.mk ?_ ?_
      |simp_all)
    simp(disch:=omega) [-zAa];refine ae n2 (by simp) λ_=>?_
    simp(disch:=omega) [-zAa];refine aa k1 rfl λ_=>?_;cases o1 with
    |true=>
      simp(disch:=omega) [-zAa];exact hN.out _<|Nx.mk 2 (by simp[upS,hs1]) (by simp) (by simp)
    |false=>
      simp(disch:=omega) [-zAa];exact hN.out _<|Nx.mk 2 (by simp[upS,hs1]) (by simp) (by simp)
   ·simp(disch:=omega) [-zAa,upS]
    refine cd ⟨[(8,.ptr 0 0),(13,.ptr 1 0),(14,.ptr 2 0),(15,.ptr 3 0),(16,.int .i64 2),(17,.ptr 4 0),(18,.ptr 5 0),(50,.int .i64 2)],[ś (.box [.str [],.str [],.str [],.str []]),ś (.box [.seq 1 A,.seq 1 A']),ś (.box [.seq 1 B,.seq 1 B']),ś (.box [.str s0,.str s1,.str [],.str []]),ś (.box [.seq 1 A,.seq 1 A']),ś (.box [.seq 1 B,.seq 1 B'])]⟩ (λF hF=>?_) ?_
    ·try simp at hF
     repeat' (first
      |with_reducible exact hF
      |refine QU.mk ?_ ?_
      |simp_all)
    simp(disch:=omega) [-zAa];refine ae n1 (by simp) λ_=>?_
    simp(disch:=omega) [-zAa];refine aa k2 rfl λ_=>?_;cases o2 with
    |true=>
      simp(disch:=omega) [-zAa];exact hN.out _<|Nx.mk 3 (by simp[upS,hs2]) (by simp) (by simp)
    |false=>
      simp(disch:=omega) [-zAa];exact hN.out _<|Nx.mk 3 (by simp[upS,hs2]) (by simp) (by simp)
   ·simp(disch:=omega) [-zAa,upS]
    refine cd ⟨[(8,.ptr 0 0),(13,.ptr 1 0),(14,.ptr 2 0),(15,.ptr 3 0),(16,.int .i64 3),(17,.ptr 4 0),(18,.ptr 5 0),(50,.int .i64 3)],[ś (.box [.str [],.str [],.str [],.str []]),ś (.box [.seq 1 A,.seq 1 A']),ś (.box [.seq 1 B,.seq 1 B']),ś (.box [.str s0,.str s1,.str s2,.str []]),ś (.box [.seq 1 A,.seq 1 A']),ś (.box [.seq 1 B,.seq 1 B'])]⟩ (λF hF=>?_) ?_
    ·try simp at hF
     repeat' (first
      |with_reducible exact hF
      |refine QU.mk ?_ ?_
      |simp_all)
    simp(disch:=omega) [-zAa];refine ae n1 (by simp) λ_=>?_
    simp(disch:=omega) [-zAa];refine ae n2 (by simp) λ_=>?_
    simp(disch:=omega) [-zAa];refine aa k3 rfl λ_=>?_;cases o3 with
    |true=>
      simp(disch:=omega) [-zAa];exact hN.out _<|Nx.mk 4 (by simp[upS,hs3]) (by simp) (by simp)
    |false=>
      simp(disch:=omega) [-zAa];exact hN.out _<|Nx.mk 4 (by simp[upS,hs3]) (by simp) (by simp)
   simp_all[zAa,upS]
def lab(el ex:Str)(mn one two:Bool)(r:Option (List Nat)):List Label:=match r with
 |none=>[]
 |some w=>[⟨4,el,ex,mn,bK w,one,two⟩]
def it(el ex:Str)(mn:Bool)(r0 r1 r2 r3:Option (List Nat)):Nat->List Label
 |0=>[]
 |1=>lab el ex mn ť ť r0
 |2=>lab el ex mn ť ť r0++lab el ex mn ť ğ r1
 |3=>lab el ex mn ť ť r0++lab el ex mn ť ğ r1++lab el ex mn ğ ť r2
 |_=>lab el ex mn ť ť r0++lab el ex mn ť ğ r1++lab el ex mn ğ ť r2++lab el ex mn ğ ğ r3
theorem ef{el ex mn one two r}:(lab el ex mn one two r).length<=1:=by cases r<;>simp[lab]
theorem Bu(p q:Policy)(el name ex:Str){r0 r1 r2 r3}(hl:∀r∈[r0,r1,r2,r3],∀w,r=ś w->w.length<250001)
 (hV:Fn ŷ wb [p.v,q.v,.str el,.str ex] (.strct [.str (cg r0),.str (cg r1),.str (cg r2),.str (cg r3)])):
 Fn ŷ iN [p.v,q.v,.str el,.str name,.str ex] (.seq 7 ((it el ex (bA name) r0 r1 r2 r3 4).map Label.v)):=by
 have l0:=hl r0 (by simp)
 have l1:=hl r1 (by simp)
 have l2:=hl r2 (by simp)
 have l3:=hl r3 (by simp)
 clear hl;refine yoA A8 ?_;simp(disch:=omega) [-zAa];refine aa hV rfl λ_=>?_;simp(disch:=omega) [-zAa];have hm:=j4 name;generalize bA name=mn at *
 refine ah (λk:Nat=>⟨[(2,.str el),(3,.str name),(4,.str ex),(11,.ref 0 (it el ex mn r0 r1 r2 r3 k).length),(18,.strct [.str (cg r0),.str (cg r1),.str (cg r2),.str (cg r3)]),(19,nV k)],
  [ś (.arr jp 7 ((it el ex mn r0 r1 r2 r3 k).map Label.v))]⟩) (λk=>k<=4) (λk=>4-k) [.r 11 jp 7] _ 0 rfl (by simp[it]) (by simp) ?_
 clear hV;intro k hk N hN;have hkk:k=0\/k=1\/k=2\/k=3\/k=4:=by omega
 rcases hkk with rfl|rfl|rfl|rfl|rfl
 ·have b0:=@ef el ex mn ť ť r0
  have b1:=@ef el ex mn ť ğ r1;have b2:=@ef el ex mn ğ ť r2;have hA:(it el ex mn r0 r1 r2 r3 0).length<=4:=by simp[it];try omega
  have hB:it el ex mn r0 r1 r2 r3 1=it el ex mn r0 r1 r2 r3 0++lab el ex mn ť ť r0:=by simp[it]
  generalize it el ex mn r0 r1 r2 r3 0=L at *;cases r0 with
  |none=>
    simp(disch:=omega) [-zAa,cg];exact hN.out _<|Nx.mk 1 (by simp[hB,lab,cg]) (by simp) (by simp)
  |some w=>
    have hw:(bK w).length<250001:=by simp_all[kG]
    simp only[cg,lab]at *;generalize bK w=t at *;simp(disch:=omega) [-zAa];refine aw hm rfl ?_;simp(disch:=omega) [-zAa];exact hN.out _<|Nx.mk 1 (by simp[hB,Label.v]) (by simp) (by simp)
 ·have b0:=@ef el ex mn ť ť r0
  have b1:=@ef el ex mn ť ğ r1;have b2:=@ef el ex mn ğ ť r2;have hA:(it el ex mn r0 r1 r2 r3 1).length<=4:=by simp[it];try omega
  have hB:it el ex mn r0 r1 r2 r3 2=it el ex mn r0 r1 r2 r3 1++lab el ex mn ť ğ r1:=by simp[it]
  generalize it el ex mn r0 r1 r2 r3 1=L at *;cases r1 with
  |none=>
    simp(disch:=omega) [-zAa,cg];exact hN.out _<|Nx.mk 2 (by simp[hB,lab,cg]) (by simp) (by simp)
  |some w=>
    have hw:(bK w).length<250001:=by simp_all[kG,l1]
    simp only[cg,lab]at *;generalize bK w=t at *;simp(disch:=omega) [-zAa];refine aw hm rfl ?_;simp(disch:=omega) [-zAa];exact hN.out _<|Nx.mk 2 (by simp[hB,Label.v]) (by simp) (by simp)
 ·have b0:=@ef el ex mn ť ť r0
  have b1:=@ef el ex mn ť ğ r1;have b2:=@ef el ex mn ğ ť r2;have hA:(it el ex mn r0 r1 r2 r3 2).length<=4:=by simp[it];try omega
  have hB:it el ex mn r0 r1 r2 r3 3=it el ex mn r0 r1 r2 r3 2++lab el ex mn ğ ť r2:=by simp[it]
  generalize it el ex mn r0 r1 r2 r3 2=L at *;cases r2 with
  |none=>
    simp(disch:=omega) [-zAa,cg];exact hN.out _<|Nx.mk 3 (by simp[hB,lab,cg]) (by simp) (by simp)
  |some w=>
    have hw:(bK w).length<250001:=by simp_all[kG]
    simp only[cg,lab]at *;generalize bK w=t at *;simp(disch:=omega) [-zAa];refine aw hm rfl ?_;simp(disch:=omega) [-zAa];exact hN.out _<|Nx.mk 3 (by simp[hB,Label.v]) (by simp) (by simp)
 ·have b0:=@ef el ex mn ť ť r0
  have b1:=@ef el ex mn ť ğ r1;have b2:=@ef el ex mn ğ ť r2;have hA:(it el ex mn r0 r1 r2 r3 3).length<=4:=by simp[it];try omega
  have hB:it el ex mn r0 r1 r2 r3 4=it el ex mn r0 r1 r2 r3 3++lab el ex mn ğ ğ r3:=by simp[it]
  generalize it el ex mn r0 r1 r2 r3 3=L at *;cases r3 with
  |none=>
    simp(disch:=omega) [-zAa,cg];exact hN.out _<|Nx.mk 4 (by simp[hB,lab,cg]) (by simp) (by simp)
  |some w=>
    have hw:(bK w).length<250001:=by simp_all[kG]
    simp only[cg,lab]at *;generalize bK w=t at *;simp(disch:=omega) [-zAa];refine aw hm rfl ?_;simp(disch:=omega) [-zAa];exact hN.out _<|Nx.mk 4 (by simp[hB,Label.v]) (by simp) (by simp)
 simp
end Go.Abs.F
end
