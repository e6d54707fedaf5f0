/-
  Sets of states, plainly: as eight words of 64 bits. No condition.
  What sets of states answer. No condition.
  What is reached from a set by a sign. No condition.
  A net's steps by each sign, and the signs that its edges tell apart. No condition.
  A walk through sets of states. No condition.
  A walk through sets of states: what it answers. No condition.
  What a net's steps and borders are, plainly. No condition.
  A net's automaton. No condition.
  The table of the functions that a closed run goes through, and that it is so. Made by program. No condition.
-/
import Derived.Test.YtloaikaippankaaGreatDoorTTh3
import Derived.Lib.TrailingZeros
import Derived.Laws.Bits64b
import Derived.Lib.Bytealg
set_option linter.unusedVariables false
set_option linter.unusedSimpArgs false
set_option linter.unusedSectionVars false
section
namespace Go.Aut
structure wOK (s:List Nat):Prop where
 len:s.length=8
 lt:∀ w∈s,w < 18446744073709551616
def cE:List Nat:=[0,0,0,0,0,0,0,0]
def bg (s:List Nat) (q:Nat):Bool:=(aH s (q / 64)).testBit (q % 64)
def orW (s t:List Nat):List Nat:=List.zipWith (fun a b=>a ||| b) s t
def vF (s:List Nat) (q:Nat):List Nat:=s.set (q / 64) (aH s (q / 64) ||| 2 ^ (q % 64))
def BL (l:List Nat):List Nat:=l.foldl vF cE
theorem iQ:wOK cE:=⟨rfl,fun w hw=>by simp [cE] at hw; omega⟩
theorem tI (q:Nat):bg cE q=false:=by
 have h0:∀ i,aH cE i=0:=fun i=>by
  unfold aH cE
  match i with
  | 0=>rfl
  | 1=>rfl
  | 2=>rfl
  | 3=>rfl
  | 4=>rfl
  | 5=>rfl
  | 6=>rfl
  | 7=>rfl
  | _ + 8=>rfl
 rw [bg,h0,Nat.zero_testBit]
theorem ln {s:List Nat} (h:wOK s) {i:Nat} (hi:i < 8):s[i]?=some (aH s i)∧aH s i < 18446744073709551616:=by
 obtain ⟨x,hx⟩:∃ x,s[i]?=some x:=⟨_,List.getElem?_eq_getElem (by rw [h.len]; exact hi)⟩
 have:aH s i=x:=by simp [aH,hx]
 rw [this]
 exact ⟨hx,h.lt x (List.mem_of_getElem? hx)⟩
theorem iR {j:Nat} (h:j < 64):2 ^ j < 18446744073709551616:=by
 have:2 ^ j < 2 ^ 64:=Nat.pow_lt_pow_right (by decide) h
 simpa using this
theorem HL {a b:Nat} (ha:a < 18446744073709551616) (hb:b < 18446744073709551616):a ||| b < 18446744073709551616:=by
 have:a ||| b < 2 ^ 64:=Nat.or_lt_two_pow (by simpa using ha) (by simpa using hb)
 simpa using this
theorem wOK.or {s t:List Nat} (hs:wOK s) (ht:wOK t):wOK (orW s t):=by
 refine ⟨by simp [orW,hs.len,ht.len],fun w hw=>?_⟩
 obtain ⟨i,hi⟩:=List.mem_iff_getElem?.1 hw
 simp only [orW,List.getElem?_zipWith] at hi
 cases h1:s[i]? with
 | none=>simp [h1] at hi
 | some a=>cases h2:t[i]? with
   | none=>simp [h1,h2] at hi
   | some b=>
     simp [h1,h2] at hi
     rw [←hi]
     exact HL (hs.lt a (List.mem_of_getElem? h1)) (ht.lt b (List.mem_of_getElem? h2))
theorem O7 {s t:List Nat} (hs:wOK s) (ht:wOK t) {i:Nat} (hi:i < 8):aH (orW s t) i=aH s i ||| aH t i:=by
 obtain ⟨x,hx⟩:∃ x,s[i]?=some x:=⟨_,(ln hs hi).1⟩
 obtain ⟨y,hy⟩:∃ y,t[i]?=some y:=⟨_,(ln ht hi).1⟩
 simp [aH,orW,List.getElem?_zipWith,hx,hy]
theorem H3 {s t:List Nat} (hs:wOK s) (ht:wOK t) {q:Nat} (hq:q < 512):bg (orW s t) q=(bg s q || bg t q):=by
 simp only [bg,O7 hs ht (show q / 64 < 8 by omega),Nat.testBit_or]
theorem wOK.add {s:List Nat} (hs:wOK s) {q:Nat} (hq:q < 512):wOK (vF s q):=by
 refine ⟨by simp [vF,hs.len],fun w hw=>?_⟩
 rcases List.mem_or_eq_of_mem_set hw with h | rfl
 · exact hs.lt w h
 · exact HL (ln hs (by omega)).2 (iR (by omega))
theorem Ma {s:List Nat} (hs:wOK s) {q p:Nat} (hq:q < 512) (hp:p < 512):bg (vF s q) p=(bg s p || decide (p=q)):=by
 simp only [bg,vF]
 by_cases h:p / 64=q / 64
 · rw [h]
   have:aH (s.set (q / 64) (aH s (q / 64) ||| 2 ^ (q % 64))) (q / 64)=aH s (q / 64) ||| 2 ^ (q % 64):=by
    unfold aH
    rw [List.getElem?_set_self (by rw [hs.len]; omega)]
    rfl
   rw [this,Nat.testBit_or,Nat.testBit_two_pow]
   congr 1
   by_cases hpq:p=q
   · rw [decide_eq_true hpq,decide_eq_true (by rw [hpq])]
   · rw [decide_eq_false hpq,decide_eq_false (by omega)]
 · have:aH (s.set (q / 64) (aH s (q / 64) ||| 2 ^ (q % 64))) (p / 64)=aH s (p / 64):=by
    unfold aH
    rw [List.getElem?_set_ne (fun e=>h e.symm)]
   rw [this]
   have:¬p=q:=fun e=>h (by rw [e])
   rw [decide_eq_false this,Bool.or_false]
theorem te:∀ (l:List Nat) (s:List Nat),wOK s→(∀ q∈l,q < 512)→wOK (l.foldl vF s)∧∀ p < 512,bg (l.foldl vF s) p=(bg s p || decide (p∈l))
 | [],s,hs,_=>⟨hs,by simp⟩
 | q::l,s,hs,hl=>by
   have hq:=hl q (by simp)
   obtain ⟨h1,h2⟩:=te l (vF s q) (hs.add hq) fun q hq=>hl q (by simp [hq])
   refine ⟨h1,fun p hp=>?_⟩
   rw [List.foldl_cons,h2 p hp,Ma hs hq hp]
   simp [Bool.or_assoc]
theorem Hu {l:List Nat} (hl:∀ q∈l,q < 512):wOK (BL l):=(te l cE iQ hl).1
theorem L9 {l:List Nat} (hl:∀ q∈l,q < 512) {p:Nat} (hp:p < 512):bg (BL l) p=decide (p∈l):=by
 rw [BL,(te l cE iQ hl).2 p hp,tI,Bool.false_or]
theorem Hv {s t:List Nat} (hs:wOK s) (ht:wOK t) (h:∀ q < 512,bg s q=bg t q):s=t:=by
 refine List.ext_getElem? fun i=>?_
 rcases Nat.lt_or_ge i 8 with hi | hi
 · obtain ⟨h1,h1l⟩:=ln hs hi
   obtain ⟨h2,h2l⟩:=ln ht hi
   rw [h1,h2]
   congr 1
   refine Nat.eq_of_testBit_eq fun j=>?_
   rcases Nat.lt_or_ge j 64 with hj | hj
   · have:=h (64 * i + j) (by omega)
     simp only [bg] at this
     rwa [show (64 * i + j) / 64=i by omega,show (64 * i + j) % 64=j by omega] at this
   · have e:∀ x,x < 18446744073709551616→x.testBit j=false:=fun x hx=>by
      refine Nat.testBit_lt_two_pow ?_
      have:2 ^ 64≤2 ^ j:=Nat.pow_le_pow_right (by decide) hj
      have h64:(2:Nat) ^ 64=18446744073709551616:=by decide
      omega
     rw [e _ h1l,e _ h2l]
 · rw [List.getElem?_eq_none (by rw [hs.len]; exact hi),List.getElem?_eq_none (by rw [ht.len]; exact hi)]
def tz (w:Nat):Nat:=Go.Lib.ctz 64 w
theorem Hx {w:Nat} (h0:w≠0) (h:w < 18446744073709551616):tz w < 64∧w.testBit (tz w)=true∧∀ j,(w &&& (w - 1)).testBit j=(w.testBit j && decide (j≠tz w)):=by
 obtain ⟨m,hm,hk⟩:=Go.Lib.ctzFrom_spec 64 w (by omega) (by simpa using h)
 have e:tz w=Go.Lib.ctzFrom 64 w:=by simp [tz,Go.Lib.ctz,h0]
 rw [←e] at hm hk
 obtain ⟨k,hkk⟩:∃ k,k=tz w:=⟨_,rfl⟩
 rw [←hkk] at hm hk ⊢
 have hpos:0 < 2 ^ k:=Nat.two_pow_pos k
 have e1:w=2 ^ (k + 1) * m + 2 ^ k:=by rw [hm,Nat.pow_succ,Nat.mul_add,Nat.mul_assoc]; simp
 have e2:w - 1=2 ^ (k + 1) * m + (2 ^ k - 1):=by omega
 have hlt:2 ^ k < 2 ^ (k + 1):=Nat.pow_lt_pow_right (by decide) (by omega)
 have t1:∀ j,w.testBit j=if j < k + 1 then (2 ^ k).testBit j else m.testBit (j - (k + 1)):=fun j=>by rw [e1,Nat.testBit_two_pow_mul_add _ hlt]
 have t2:∀ j,(w - 1).testBit j=if j < k + 1 then (2 ^ k - 1).testBit j else m.testBit (j - (k + 1)):=fun j=>by rw [e2,Nat.testBit_two_pow_mul_add _ (by omega)]
 refine ⟨hk,?_,fun j=>?_⟩
 · rw [t1,if_pos (by omega),Nat.testBit_two_pow]; simp
 · rw [Nat.testBit_and,t1,t2]
   by_cases hj:j < k + 1
   · rw [if_pos hj,if_pos hj,Nat.testBit_two_pow,Nat.testBit_two_pow_sub_one]
     by_cases hjk:k=j
     · simp [hjk]
     · simp [hjk]
   · rw [if_neg hj,if_neg hj]
     have:j≠k:=by omega
     simp [this]
theorem u7 {w:Nat} (h0:w≠0):w &&& (w - 1) < w:=by
 have:w &&& (w - 1)≤w - 1:=Nat.and_le_right
 omega
def jz (f:Nat→List Nat):Nat→Nat→List Nat→List Nat
 | 0,_,out=>out
 | fu + 1,w,out=>if w=0 then out else jz f fu (w &&& (w - 1)) (orW out (f (tz w)))
theorem ov {f:Nat→List Nat} (hf:∀ j < 64,wOK (f j)):∀ (fu w:Nat) (out:List Nat),wOK out→w < 18446744073709551616→w≤fu→
 wOK (jz f fu w out)∧∀ q < 512,bg (jz f fu w out) q=true↔(bg out q=true∨∃ j < 64,w.testBit j=true∧bg (f j) q=true)
 | 0,w,out,ho,_,hw=>by
   have:w=0:=by omega
   subst this
   exact ⟨ho,fun q hq=>by simp [jz]⟩
 | fu + 1,w,out,ho,hlt,hw=>by
   simp only [jz]
   by_cases h0:w=0
   · subst h0
     simp only [if_pos]
     exact ⟨ho,fun q hq=>by simp⟩
   · rw [if_neg h0]
     obtain ⟨h1,h2,h3⟩:=Hx h0 hlt
     have hl:=u7 h0
     obtain ⟨g1,g2⟩:=ov hf fu (w &&& (w - 1)) (orW out (f (tz w))) (ho.or (hf _ h1)) (by omega) (by omega)
     refine ⟨g1,fun q hq=>?_⟩
     rw [g2 q hq,H3 ho (hf _ h1) hq,Bool.or_eq_true,or_assoc]
     refine or_congr_right ?_
     constructor
     · rintro (h | ⟨j,hj,hb,hh⟩)
       · exact ⟨tz w,h1,h2,h⟩
       · rw [h3] at hb
         simp only [Bool.and_eq_true] at hb
         exact ⟨j,hj,hb.1,hh⟩
     · rintro ⟨j,hj,hb,hh⟩
       by_cases hjt:j=tz w
       · subst hjt; exact .inl hh
       · exact .inr ⟨j,hj,by rw [h3,hb]; simp [hjt],hh⟩
def m9 (f:Nat→List Nat):Nat→List Nat→List Nat→List Nat
 | _,[],out=>out
 | i,w::s,out=>m9 f (i + 1) s (jz (fun j=>f (64 * i + j)) (w + 1) w out)
def ofW (f:Nat→List Nat) (s:List Nat):List Nat:=m9 f 0 s cE
theorem wG {f:Nat→List Nat} {full:List Nat} (hfull:wOK full) (hf:∀ q < 512,wOK (f q)):∀ (s:List Nat) (i:Nat) (out:List Nat),full.drop i=s→wOK out→
 wOK (m9 f i s out)∧∀ q < 512,bg (m9 f i s out) q=true↔(bg out q=true∨∃ p < 512,64 * i≤p∧bg full p=true∧bg (f p) q=true)
 | [],i,out,hd,ho=>by
   have hi:8≤i:=by have:=congrArg List.length hd; simp [hfull.len] at this; omega
   refine ⟨ho,fun q hq=>?_⟩
   simp only [m9]
   constructor
   · exact .inl
   · rintro (h | ⟨p,hp,hpi,_⟩)
     · exact h
     · omega
 | w::s,i,out,hd,ho=>by
   have hi:i < 8:=by
    rcases Nat.lt_or_ge i 8 with h | h
    · exact h
    · rw [List.drop_of_length_le (by rw [hfull.len]; exact h)] at hd; cases hd
   have hil:i < full.length:=by rw [hfull.len]; exact hi
   have hw:full[i]?=some w:=by
    rw [List.drop_eq_getElem_cons hil] at hd
    injection hd with e1 e2
    rw [List.getElem?_eq_getElem hil,e1]
   have hd':full.drop (i + 1)=s:=by
    rw [List.drop_eq_getElem_cons hil] at hd
    injection hd
   have hwl:=hfull.lt w (List.mem_of_getElem? hw)
   have hgw:aH full i=w:=by simp [aH,hw]
   obtain ⟨g1,g2⟩:=ov (f:=fun j=>f (64 * i + j)) (fun j hj=>hf _ (by omega)) (w + 1) w out ho hwl (by omega)
   obtain ⟨h1,h2⟩:=wG hfull hf s (i + 1) _ hd' g1
   refine ⟨h1,fun q hq=>?_⟩
   simp only [m9]
   rw [h2 q hq,g2 q hq,or_assoc]
   refine or_congr_right ?_
   constructor
   · rintro (⟨j,hj,hb,hh⟩ | ⟨p,hp,hpi,hh⟩)
     · exact ⟨64 * i + j,by omega,by omega,by rw [bg,show (64 * i + j) / 64=i by omega,show (64 * i + j) % 64=j by omega,hgw]; exact hb,hh⟩
     · exact ⟨p,hp,by omega,hh⟩
   · rintro ⟨p,hp,hpi,hb,hh⟩
     rcases Nat.lt_or_ge p (64 * (i + 1)) with hlt | hge
     · refine .inl ⟨p % 64,by omega,?_,?_⟩
       · rw [bg,show p / 64=i by omega,hgw] at hb; exact hb
       · rw [show 64 * i + p % 64=p by omega]; exact hh
     · exact .inr ⟨p,hp,hge,hb,hh⟩
theorem m8 {f:Nat→List Nat} {s:List Nat} (hs:wOK s) (hf:∀ q < 512,wOK (f q)):wOK (ofW f s)∧∀ q < 512,bg (ofW f s) q=true↔∃ p < 512,bg s p=true∧bg (f p) q=true:=by
 obtain ⟨h1,h2⟩:=wG hs hf s 0 cE rfl iQ
 refine ⟨h1,fun q hq=>?_⟩
 rw [ofW,h2 q hq,tI]
 simp
end Go.Aut
end
section
set_option maxHeartbeats 1000000
set_option maxRecDepth 100000
namespace Go.Abs
open Go.Proofs Go.Aut
attribute [-simp] getElem?_pos Option.not_isSome List.map_map
theorem vG {n:Int} (h1:0≤n) (h2:n≤18446744073709551615):IntKind.u64.wrap n=n:=by
 rw [Go.IntKind.wrap_u64]; omega
theorem FF {a b:Nat} (ha:a < 18446744073709551616) (hb:b < 18446744073709551616):pC .and .u64 (a:Int) (b:Int)=some (.int .u64 ((a &&& b:Nat):Int)):=by
 have h1:(BitVec.ofInt 64 (a:Int)).toNat=a:=by rw [BitVec.ofInt_natCast,BitVec.toNat_ofNat]; exact Nat.mod_eq_of_lt (by omega)
 have h2:(BitVec.ofInt 64 (b:Int)).toNat=b:=by rw [BitVec.ofInt_natCast,BitVec.toNat_ofNat]; exact Nat.mod_eq_of_lt (by omega)
 have h3:a &&& b≤a:=Nat.and_le_left
 simp only [pC]
 rw [show IntKind.u64.bits=64 from rfl,BitVec.toNat_and,h1,h2,vG (by omega) (by omega)]
theorem KO {a b:Nat} (ha:a < 18446744073709551616) (hb:b < 18446744073709551616):pC .or .u64 (a:Int) (b:Int)=some (.int .u64 ((a ||| b:Nat):Int)):=by
 have h1:(BitVec.ofInt 64 (a:Int)).toNat=a:=by rw [BitVec.ofInt_natCast,BitVec.toNat_ofNat]; exact Nat.mod_eq_of_lt (by omega)
 have h2:(BitVec.ofInt 64 (b:Int)).toNat=b:=by rw [BitVec.ofInt_natCast,BitVec.toNat_ofNat]; exact Nat.mod_eq_of_lt (by omega)
 have h3:=HL ha hb
 simp only [pC]
 rw [show IntKind.u64.bits=64 from rfl,BitVec.toNat_or,h1,h2,vG (by omega) (by omega)]
theorem KM {j:Nat} (hj:j < 64):qu .shl .u64 1 (j:Int)=some (.int .u64 ((2 ^ j:Nat):Int)):=by
 have h:=iR hj
 have hp:(2:Int) ^ j=((2 ^ j:Nat):Int):=by simp
 simp only [qu]
 rw [if_neg (by omega),show IntKind.u64.bits=64 from rfl,show min (j:Int).toNat 64=j by omega,hp,Int.one_mul]
 obtain ⟨P,hP⟩:∃ P,P=2 ^ j:=⟨_,rfl⟩
 rw [←hP] at h ⊢
 rw [vG (by omega) (by omega)]
theorem uh:List.replicate 8 (V.int .u64 0)=cE.map az:=rfl
theorem lx {w:Nat} (h0:w≠0) (h:w < 18446744073709551616):Fn Tryz.prog im [az w] (nV (tz w)):=by
 refine Fn.of_image mixed iw iu rfl fun ho=>?_
 unfold dj
 simp only [oks,ok,and_true] at ho
 clear ho
 obtain ⟨hlow,hk⟩:=Go.Lib.lowest_bit 64 w h0 (by simpa using h)
 obtain ⟨hi,htab⟩:=Go.Lib.deBruijn64_at _ hk
 have hpl:=iR hk
 obtain ⟨k,hkk⟩:∃ k,k=Go.Lib.ctz 64 w:=⟨_,rfl⟩
 have htz:tz w=k:=by rw [hkk]; rfl
 rw [←hkk] at hlow hk hi htab hpl
 obtain ⟨P,hP⟩:∃ P,P=2 ^ k:=⟨_,rfl⟩
 rw [←hP] at hlow hi htab hpl
 obtain ⟨X,hX⟩:∃ X,X=P * 285870213051353865 % 18446744073709551616:=⟨_,rfl⟩
 rw [←hX] at hi htab
 obtain ⟨idx,hidx⟩:∃ idx,idx=X / 288230376151711744:=⟨_,rfl⟩
 rw [←hidx] at hi htab
 have e1:vun .neg (.int .u64 (w:Int))=some (.int .u64 ((18446744073709551616 - w:Nat):Int)):=by
  simp only [vun]
  rw [Go.IntKind.wrap_u64]
  congr 2
  omega
 have e2:pC .and .u64 (w:Int) ((18446744073709551616 - w:Nat):Int)=some (.int .u64 (P:Int)):=by
  rw [FF h (by omega)]
  rw [show (18446744073709551616:Nat)=2 ^ 64 from rfl,hlow]
 have e3:bR .mul .u64 (P:Int) 285870213051353865=some (.int .u64 (X:Int)):=by
  simp only [bR]
  rw [Go.IntKind.wrap_u64,hX]
  congr 2
 have e4:qu .shr .u64 (X:Int) 58=some (.int .u64 (idx:Int)):=by
  rw [hidx]
  simp only [qu]
  rw [if_neg (by omega),show min (Int.toNat 58) IntKind.u64.bits=58 from rfl,Int.fdiv_eq_ediv_of_nonneg _ (by decide)]
  congr 2
 have hw:¬w=0:=h0
 have hcut:List.take 1 (List.drop idx (Go.Lib.deBruijn64tab.map u8V))=[u8V k]:=by
  have hl:idx < Go.Lib.deBruijn64tab.length:=by simpa [Go.Lib.deBruijn64tab] using hi
  have hg:Go.Lib.deBruijn64tab[idx]?=some k:=by
   rw [List.getD_eq_getElem?_getD,List.getElem?_eq_getElem hl] at htab
   rw [List.getElem?_eq_getElem hl]
   simpa using htab
  have hg2:(Go.Lib.deBruijn64tab.map u8V)[idx]?=some (u8V k):=by rw [List.getElem?_map,hg]; rfl
  rw [List.drop_eq_getElem_cons (by simpa using hl)]
  rw [List.getElem?_eq_getElem (by simpa using hl)] at hg2
  simp only [Option.some.injEq] at hg2
  simp [hg2]
 simp [Go.Lib.deBruijn64tab] at hcut
 unfold az
 simp (disch:=omega) [-List.reduceReplicate,hw,e1,e2,e3,e4,hcut,htz]
theorem bN {l:List V} {j:Nat} {v:V} (h:l[j]?=some v):List.take 1 (List.drop j l)=[v]:=by
 obtain ⟨hl,he⟩:=List.getElem?_eq_some_iff.1 h
 rw [List.drop_eq_getElem_cons hl,he]
 rfl
theorem iS {l:List V} {j:Nat} {v:V} (h:j < l.length):List.take j l++v::List.drop (j + 1) l=l.set j v:=by
 rw [List.set_eq_take_append_cons_drop,if_pos h]
theorem uT (l:List Nat) (hl:∀ q∈l,q < 512) (hll:l.length≤1000000):Fn Tryz.prog Eb [bL l] (.strct ((BL l).map az)):=by
 refine Fn.of_image mixed EF Ey rfl fun ho=>?_
 unfold u2
 simp only [oks,ok,and_true] at ho
 clear ho
 obtain ⟨R,hR⟩:∃ R,R=BL l:=⟨_,rfl⟩
 rw [←hR]
 have hRl:R.length=8:=by rw [hR]; exact (Hu hl).len
 simp (disch:=omega) [-List.reduceReplicate]
 refine ak (fun (x:Nat × List Nat)=>⟨[(2,.ptr 0 0),(3,.ptr 1 0),(6,bL l),(7,.int .i64 l.length),(8,nV x.1)],[some (.box (cE.map az)),some (.box (x.2.map az))]⟩)
  (fun x=>x.1≤l.length∧wOK x.2∧(l.drop x.1).foldl vF x.2=R) (fun x=>l.length - x.1) [] _ (0,cE) rfl (by simp [-List.reduceReplicate,uh]) ⟨by simp,iQ,by simp [hR,BL]⟩ ?_
 rintro ⟨k,s⟩ ⟨hk,hs,hi⟩ N hN
 simp only at hk hs hi
 have hsl:=hs.len
 rcases place l k hk with ⟨he,hd⟩ | ⟨hlt,q,hx,hd⟩<;>rw [hd] at hi
 · simp only [List.foldl_nil] at hi
   subst hi
   have h8:List.take 8 (s.map az)=s.map az:=List.take_of_length_le (by simp; omega)
   simp (disch:=omega) [-List.reduceReplicate,he,hsl,h8,cE]
 · have hq:=hl q (List.mem_of_getElem? hx)
   have e1:((q:Int) / 64).toNat=q / 64:=by omega
   have hj:=KM (j:=q % 64) (by omega)
   rw [show ((q % 64:Nat):Int)=(q:Int) % 64 by omega] at hj
   have hw:=ln hs (i:=q / 64) (by omega)
   have hor:=KO hw.2 (iR (j:=q % 64) (by omega))
   have ha:vF s q=s.set (q / 64) (aH s (q / 64) ||| 2 ^ (q % 64)):=rfl
   have haok:=hs.add hq
   obtain ⟨i,hii⟩:∃ i,i=q / 64:=⟨_,rfl⟩
   obtain ⟨P,hP⟩:∃ P,P=2 ^ (q % 64):=⟨_,rfl⟩
   obtain ⟨w,hww⟩:∃ w,w=aH s (q / 64):=⟨_,rfl⟩
   have hi8:i < 8:=by omega
   rw [←hP] at hj hor ha
   rw [←hww,←hii] at hw
   rw [←hww] at hor ha
   rw [←hii] at e1 ha
   obtain ⟨v,hv⟩:∃ v,v=w ||| P:=⟨_,rfl⟩
   rw [←hv] at hor ha
   have hc:=bN (l:=s.map az) (j:=i) (v:=.int .u64 w) (by rw [List.getElem?_map,hw.1]; rfl)
   have hsp:=iS (l:=s.map az) (j:=i) (v:=.int .u64 v) (by simp; omega)
   have hset:(s.map az).set i (.int .u64 v)=(vF s q).map az:=by rw [ha,List.map_set]; rfl
   rw [hset] at hsp
   rw [List.foldl_cons] at hi
   replace hi:=hid hi
   simp (disch:=omega) [-List.reduceReplicate,hx,e1,hj,hor,hc,hsp,hsl]
   exact hN.out _<|Nx.mk (k + 1,vF s q) (by simp) ⟨by simp only; omega,haok,hi.out⟩ (by simp only; omega)
theorem JI (s:List Nat) (hs:wOK s) (q:Nat) (hq:q < 512):Fn Tryz.prog yT [.strct (s.map az),nV q] (.bool (bg s q)):=by
 refine Fn.of_image mixed zP zp rfl fun ho=>?_
 unfold ql
 simp only [oks,ok,and_true] at ho
 clear ho
 have hsl:=hs.len
 have e1:((q:Int) / 64).toNat=q / 64:=by omega
 have hj:=KM (j:=q % 64) (by omega)
 rw [show ((q % 64:Nat):Int)=(q:Int) % 64 by omega] at hj
 have hw:=ln hs (i:=q / 64) (by omega)
 have hand:=FF hw.2 (iR (j:=q % 64) (by omega))
 have hres:(aH s (q / 64) &&& 2 ^ (q % 64)=0)=(bg s q=false):=by
  rw [bg,eq_iff_iff]
  constructor
  · intro h
    have:=congrArg (fun x=>x.testBit (q % 64)) h
    simpa [Nat.testBit_and,Nat.testBit_two_pow] using this
  · intro h
    refine Nat.eq_of_testBit_eq fun k=>?_
    rw [Nat.testBit_and,Nat.testBit_two_pow,Nat.zero_testBit]
    by_cases hk:q % 64=k
    · rw [←hk,h]; rfl
    · simp [hk]
 obtain ⟨i,hii⟩:∃ i,i=q / 64:=⟨_,rfl⟩
 obtain ⟨P,hP⟩:∃ P,P=2 ^ (q % 64):=⟨_,rfl⟩
 obtain ⟨w,hww⟩:∃ w,w=aH s (q / 64):=⟨_,rfl⟩
 have hi8:i < 8:=by omega
 rw [←hP] at hj hand hres
 rw [←hww,←hii] at hw
 rw [←hww] at hand hres
 rw [←hii] at e1
 obtain ⟨v,hv⟩:∃ v,v=w &&& P:=⟨_,rfl⟩
 rw [←hv] at hand hres
 have hc:=bN (l:=s.map az) (j:=i) (v:=.int .u64 w) (by rw [List.getElem?_map,hw.1]; rfl)
 simp (disch:=omega) [-List.reduceReplicate,e1,hj,hand,hc,hsl]
 cases hh:bg s q<;>rw [hh] at hres<;>simp [hres]
def cP (k off:Nat) (r t:List Nat):List Nat:=r.take off++((orW ((r.drop off).take 8) t).take k++r.drop (off + k))
section
variable {k off:Nat} {r t:List Nat} (hr:off + 8≤r.length) (ht:t.length=8)
include hr ht
theorem rT:(orW ((r.drop off).take 8) t).length=8:=by simp [orW,ht]; omega
theorem wZ (hk:k≤8):(cP k off r t).length=r.length:=by
 have:=rT hr ht
 simp [cP,this]; omega
theorem AQ:cP 0 off r t=r:=by simp [cP]
theorem Ee (hk:k < 8):(cP k off r t)[off + k]?=r[off + k]?:=by
 have:=rT hr ht
 rw [cP,List.getElem?_append_right (by simp; omega),List.getElem?_append_right (by simp [this]; omega),List.getElem?_drop]
 congr 1
 simp [this]; omega
theorem AR (hk:k < 8) {a b:Nat} (ha:r[off + k]?=some a) (hb:t[k]?=some b):(cP k off r t).set (off + k) (a ||| b)=cP (k + 1) off r t:=by
 have h8:=rT hr ht
 have hd:r.drop (off + k)=a::r.drop (off + (k + 1)):=by rw [oV ha]; rfl
 have ho:(orW ((r.drop off).take 8) t)[k]?=some (a ||| b):=by
  simp only [orW,List.getElem?_zipWith,List.getElem?_take,List.getElem?_drop,ha,hb,if_pos hk]
 rw [cP,cP,hd,aS ho,List.set_append_right _ _ (by simp; omega),List.set_append_right _ _ (by simp [h8]; omega)]
 simp only [List.append_assoc,List.cons_append,List.nil_append]
 congr 2
 have:off + k - (r.take off).length - ((orW ((r.drop off).take 8) t).take k).length=0:=by simp [h8]; omega
 rw [this]
 rfl
end
theorem I9 {s t:List Nat} (hs:s.length=8) (ht:t.length=8):cP 8 0 s t=orW s t:=by
 have h1:s.take 8=s:=List.take_of_length_le (by omega)
 have h2:s.drop 8=[]:=List.drop_of_length_le (by omega)
 have h3:(orW s t).take 8=orW s t:=List.take_of_length_le (by simp [orW]; omega)
 simp [cP,h1,h2,h3]
theorem C8 (s t row:List Nat) (off:Nat) (hs:wOK s) (ht:wOK t) (hrow:(row.drop off).take 8=t):FnH Tryz.prog lX [0,1] [.ptr 0 0,.sptr (.strct (row.map az)) off] [some (.box (s.map az))] (.tup []) [some (.box ((orW s t).map az))]:=by
 refine FnH.of_image mixed me l8 rfl fun ho hh=>?_
 unfold gS
 clear ho hh
 have hsl:=hs.len
 have htl:=ht.len
 have hrl:off + 8≤row.length:=by have:=congrArg List.length hrow; simp at this; omega
 simp (disch:=omega) [-List.reduceReplicate]
 refine ak (fun k:Nat=>⟨[(0,.ptr 0 0),(1,.sptr (.strct (row.map az)) off),(6,.sptr (.strct (row.map az)) off),(7,nV k)],[some (.box ((cP k 0 s t).map az))]⟩) (fun k=>k≤8) (fun k=>8 - k) [] _ 0 rfl (by simp [AQ (r:=s) (t:=t) (off:=0) (by omega) htl]) (by simp) ?_
 intro k hk N hN
 rcases Nat.lt_or_ge k 8 with hk8 | hk8
 · obtain ⟨a,ha⟩:=ap (l:=s) (k:=k) (by omega)
   obtain ⟨b,hb⟩:=ap (l:=t) (k:=k) (by omega)
   have hal:=hs.lt a (List.mem_of_getElem? ha)
   have hbl:=ht.lt b (List.mem_of_getElem? hb)
   have hrb:row[off + k]?=some b:=by
    rw [←hrow,List.getElem?_take,if_pos hk8,List.getElem?_drop] at hb; exact hb
   have hml:=wZ (k:=k) (r:=s) (t:=t) (off:=0) (by omega) htl (by omega)
   have hmg:=Ee (k:=k) (r:=s) (t:=t) (off:=0) (by omega) htl hk8
   rw [Nat.zero_add,ha] at hmg
   have hst:=AR (k:=k) (r:=s) (t:=t) (off:=0) (by omega) htl hk8 (a:=a) (b:=b) (by rw [Nat.zero_add]; exact ha) hb
   rw [Nat.zero_add] at hst
   have hor:=KO hal hbl
   obtain ⟨v,hv⟩:∃ v,v=a ||| b:=⟨_,rfl⟩
   rw [←hv] at hst hor
   have hc1:=bN (l:=row.map az) (j:=off + k) (v:=.int .u64 b) (by rw [List.getElem?_map,hrb]; rfl)
   have hc2:=bN (l:=(cP k 0 s t).map az) (j:=k) (v:=.int .u64 a) (by rw [List.getElem?_map,hmg]; rfl)
   have hsp:=iS (l:=(cP k 0 s t).map az) (j:=k) (v:=.int .u64 v) (by simp; omega)
   rw [show ((cP k 0 s t).map az).set k (.int .u64 v)=(cP (k + 1) 0 s t).map az by rw [←hst,List.map_set]; rfl] at hsp
   have hlt2:off + k < row.length:=by omega
   simp (disch:=omega) [-List.reduceReplicate,hc1,hc2,hsp,hor,hml,hsl]
   exact hN.out _<|Nx.mk (k + 1) (by simp) (by omega) (by omega)
 · have:k=8:=by omega
   subst this
   have hf:=I9 hsl htl
   simp (disch:=omega) [-List.reduceReplicate,hf]
theorem C7 (e1 e2:Nat) (rows:List (List Nat)) (sets:List (List Nat)) (i j off:Nat) (r t:List Nat) (hri:rows[i]?=some r) (hsj:sets[j]?=some t) (hrw:∀ w∈r,w < 18446744073709551616) (hrl:r.length=760) (hoff:off + 8≤760) (ht:wOK t):
 FnH Tryz.prog lX [0,1] [.eptr 0 rows.length i off,.eptr 1 sets.length j 0] [some (.arr e1 760 (rows.map fun r=>.strct (r.map az))),some (.arr e2 8 (sets.map fun r=>.strct (r.map az)))] (.tup []) [some (.arr e1 760 ((rows.set i (cP 8 off r t)).map fun r=>.strct (r.map az))),some (.arr e2 8 (sets.map fun r=>.strct (r.map az)))]:=by
 refine FnH.of_image mixed me l8 rfl fun ho hh=>?_
 unfold gS
 clear ho hh
 have htl:=ht.len
 have hil:=(List.getElem?_eq_some_iff.1 hri).1
 have hjl:=(List.getElem?_eq_some_iff.1 hsj).1
 obtain ⟨n,hn⟩:∃ n,n=rows.length:=⟨_,rfl⟩
 have hset0:rows.set i r=rows:=by
  refine List.ext_getElem? fun k=>?_
  by_cases hk:i=k
  · subst hk; rw [List.getElem?_set_self hil,hri]
  · rw [List.getElem?_set_ne hk]
 obtain ⟨sv,hsv⟩:∃ sv:List V,sv=sets.map fun r=>V.strct (r.map az):=⟨_,rfl⟩
 have hsvl:sv.length=sets.length:=by simp [hsv]
 have hsvj:sv[j]?=some (.strct (t.map az)):=by simp [hsv,hsj]
 rw [←hsv]
 clear hsv hsj
 simp (disch:=omega) [-List.reduceReplicate]
 refine ak (fun k:Nat=>⟨[(0,.eptr 0 rows.length i off),(1,.eptr 1 sets.length j 0),(6,.eptr 1 sets.length j 0),(7,nV k)],[some (.arr e1 760 ((rows.set i (cP k off r t)).map fun r=>.strct (r.map az))),some (.arr e2 8 sv)]⟩) (fun k=>k≤8) (fun k=>8 - k) [] _ 0 rfl (by rw [AQ (by omega) htl,hset0]; simp) (by simp) ?_
 intro k hk N hN
 rcases Nat.lt_or_ge k 8 with hk8 | hk8
 · obtain ⟨a,ha⟩:=ap (l:=r) (k:=off + k) (by omega)
   obtain ⟨b,hb⟩:=ap (l:=t) (k:=k) (by omega)
   have hal:=hrw a (List.mem_of_getElem? ha)
   have hbl:=ht.lt b (List.mem_of_getElem? hb)
   have hml:=wZ (k:=k) (r:=r) (t:=t) (off:=off) (by omega) htl (by omega)
   have hmg:=Ee (k:=k) (r:=r) (t:=t) (off:=off) (by omega) htl hk8
   rw [ha] at hmg
   have hst:=AR (k:=k) (r:=r) (t:=t) (off:=off) (by omega) htl hk8 (a:=a) (b:=b) ha hb
   have hor:=KO hal hbl
   obtain ⟨v,hv⟩:∃ v,v=a ||| b:=⟨_,rfl⟩
   rw [←hv] at hst hor
   have hc1:=bN (l:=t.map az) (j:=k) (v:=.int .u64 b) (by rw [List.getElem?_map,hb]; rfl)
   have hc2:=bN (l:=(cP k off r t).map az) (j:=off + k) (v:=.int .u64 a) (by rw [List.getElem?_map,hmg]; rfl)
   have hsp:=iS (l:=(cP k off r t).map az) (j:=off + k) (v:=.int .u64 v) (by simp; omega)
   rw [show ((cP k off r t).map az).set (off + k) (.int .u64 v)=(cP (k + 1) off r t).map az by rw [←hst,List.map_set]; rfl] at hsp
   obtain ⟨rv,hrv⟩:∃ rv:List V,rv=(rows.set i (cP k off r t)).map fun r=>V.strct (r.map az):=⟨_,rfl⟩
   have hrvl:rv.length=rows.length:=by simp [hrv]
   have hrvi:rv[i]?=some (.strct ((cP k off r t).map az)):=by simp [hrv,hil]
   have hrs:rv.set i (.strct ((cP (k + 1) off r t).map az))=(rows.set i (cP (k + 1) off r t)).map fun r=>V.strct (r.map az):=by
    rw [hrv,show V.strct ((cP (k + 1) off r t).map az)=(fun r:List Nat=>V.strct (r.map az)) (cP (k + 1) off r t) from rfl,←List.map_set,List.set_set]
   rw [←hrv]
   have hol:off + k < 760:=by omega
   simp (disch:=omega) [-List.reduceReplicate,hc1,hc2,hsp,hor,hml,htl,hrvi,hrvl,hsvj,hsvl,hrl]
   exact hN.out _<|Nx.mk (k + 1) (by rw [hrs]; simp) (by omega) (by omega)
 · have:k=8:=by omega
   subst this
   simp (disch:=omega) [-List.reduceReplicate]
def aP (r:List Nat):V:=.strct (r.map az)
def bK (t:List (List Nat)):V:=.seq 760 (t.map aP)
def bn (t:List (List Nat)) (sign q:Nat):List Nat:=match t[q]? with
 | some r=>(r.drop (8 * sign)).take 8
 | none=>cE
structure stepsOK (t:List (List Nat)):Prop where
 len:t.length≤512
 rows:∀ r∈t,r.length=760∧∀ w∈r,w < 18446744073709551616
theorem stepsOK.set {t:List (List Nat)} (h:stepsOK t) {sign:Nat} (hs:sign < 95) (q:Nat):wOK (bn t sign q):=by
 unfold bn
 split
 · rename_i r hr
   obtain ⟨h1,h2⟩:=h.rows r (List.mem_of_getElem? hr)
   exact ⟨by simp; omega,fun w hw=>h2 w (List.mem_of_mem_drop (List.mem_of_mem_take hw))⟩
 · exact iQ
theorem Oi {w:Nat} (h0:w≠0) (h:w < 18446744073709551616):bR .sub .u64 (w:Int) 1=some (.int .u64 ((w - 1:Nat):Int)):=by
 simp only [bR]
 rw [vG (by omega) (by omega)]
 congr 2
 omega
theorem GI (t:List (List Nat)) (ht:stepsOK t) (s:List Nat) (hs:wOK s) (sign:Nat) (hsg:sign < 95) (hst:∀ p < 512,bg s p=true→p < t.length):
 Fn Tryz.prog wV [bK t,.strct (s.map az),nV sign] (.strct ((ofW (bn t sign) s).map az)):=by
 refine Fn.of_imageE mixed xw xh rfl fun ho=>?_
 unfold oh
 simp only [oks,ok,and_true] at ho
 clear ho
 have htl:=ht.len
 have hsl:=hs.len
 obtain ⟨R,hR⟩:∃ R,R=ofW (bn t sign) s:=⟨_,rfl⟩
 have hfok:∀ q,wOK (bn t sign q):=fun q=>ht.set hsg q
 have hRl:R.length=8:=by rw [hR]; exact (m8 hs fun q _=>hfok q).1.len
 rw [←hR]
 have h8:∀ x:List Nat,x.length=8→List.take 8 (x.map az)=x.map az:=fun x hx=>List.take_of_length_le (by simp; omega)
 have h8s:=h8 s hsl
 simp (disch:=omega) [-List.reduceReplicate,bK,hsl,h8s]
 refine ak (fun (x:Nat × List Nat)=>⟨[(0,bK t),(2,nV sign),(6,.ptr 0 0),(7,.ptr 1 0),(10,.strct (s.map az)),(11,nV x.1)],[some (.box (cE.map az)),some (.box (x.2.map az))]⟩)
  (fun x=>x.1≤8∧wOK x.2∧m9 (bn t sign) x.1 (s.drop x.1) x.2=R) (fun x=>8 - x.1) [] _ (0,cE) rfl (by simp [-List.reduceReplicate,uh,bK]) ⟨by simp,iQ,by simp [hR,ofW]⟩ ?_
 rintro ⟨i,out⟩ ⟨hi8,hout,hi⟩ N hN
 simp only at hi8 hout hi
 rcases Nat.lt_or_ge i 8 with hlt | hge
 · obtain ⟨w,hw⟩:=ap (l:=s) (k:=i) (by omega)
   have hwl:=hs.lt w (List.mem_of_getElem? hw)
   have hgw:aH s i=w:=by simp [aH,hw]
   rw [oV hw] at hi
   simp only [m9] at hi
   obtain ⟨T,hT⟩:∃ T,T=jz (fun j=>bn t sign (64 * i + j)) (w + 1) w out:=⟨_,rfl⟩
   have hTok:wOK T:=by rw [hT]; exact (ov (fun j _=>hfok _) (w + 1) w out hout hwl (by omega)).1
   rw [←hT] at hi
   replace hi:=hid hi
   have hc:=bN (l:=s.map az) (j:=i) (v:=.int .u64 w) (by rw [List.getElem?_map,hw]; rfl)
   simp (disch:=omega) [-List.reduceReplicate,bK,hc,hsl]
   refine ak (fun (x:Nat × Nat × List Nat)=>⟨[(0,bK t),(2,nV sign),(6,.ptr 0 0),(7,.ptr 1 0),(8,nV i),(9,.int .u64 x.2.1),(10,.strct (s.map az)),(11,nV i)],[some (.box (cE.map az)),some (.box (x.2.2.map az))]⟩)
    (fun x=>wOK x.2.2∧x.2.1 < 18446744073709551616∧x.2.1≤x.1∧(∀ j < 64,x.2.1.testBit j=true→w.testBit j=true)∧jz (fun j=>bn t sign (64 * i + j)) x.1 x.2.1 x.2.2=T) (fun x=>x.1) [] _ (w + 1,w,out) rfl (by simp [bK]) ⟨hout,hwl,by simp,fun _ _ h=>h,hT.symm⟩ ?_
   rintro ⟨fu,v,o⟩ ⟨hok,hvl,hvf,hsub,hb⟩ M hM
   simp only at hok hvl hvf hsub hb
   by_cases h0:v=0
   · subst h0
     have:o=T:=by
      cases fu with
      | zero=>simpa [jz] using hb
      | succ fu=>simpa [jz] using hb
     subst this
     simp (disch:=omega) [-List.reduceReplicate,bK]
     exact hN.out _<|Nx.mk (i + 1,o) (by simp [bK]) ⟨by simp only; omega,hok,hi.out⟩ (by simp only; omega)
   · cases fu with
     | zero=>omega
     | succ fu=>
     simp only [jz,if_neg h0] at hb
     obtain ⟨g1,g2,g3⟩:=Hx h0 hvl
     have hp:64 * i + tz v < t.length:=hst _ (by omega) (by rw [bg,show (64 * i + tz v) / 64=i by omega,show (64 * i + tz v) % 64=tz v by omega,hgw]; exact hsub _ g1 g2)
     obtain ⟨row,hrow⟩:=ap (l:=t) (k:=64 * i + tz v) hp
     have hset:bn t sign (64 * i + tz v)=(row.drop (8 * sign)).take 8:=by simp [bn,hrow]
     have hfo:=hfok (64 * i + tz v)
     have hj:=C8 o _ row (8 * sign) hok hfo hset.symm
     have htz:=lx h0 hvl
     have hsb:=Oi h0 hvl
     have hand:=FF hvl (show v - 1 < 18446744073709551616 by omega)
     have hlt2:=u7 h0
     obtain ⟨z,hz⟩:∃ z,z=tz v:=⟨_,rfl⟩
     rw [←hz] at g1 g2 g3 hp hrow hset hfo hj htz hb
     obtain ⟨v',hv'⟩:∃ v',v'=v &&& (v - 1):=⟨_,rfl⟩
     rw [←hv'] at hand hlt2 hb g3
     obtain ⟨v1,hv1⟩:∃ v1,v1=v - 1:=⟨_,rfl⟩
     rw [←hv1] at hand hsb
     have hi1:((64:Int) * i + z).toNat=64 * i + z:=by omega
     have hs1:sign * 8=8 * sign:=Nat.mul_comm _ _
     simp only [az] at htz
     simp (disch:=omega) [-List.reduceReplicate,bK,h0]
     refine ae htz rfl fun _=>?_
     simp (disch:=omega) [-List.reduceReplicate,hi1,hrow,aP,hs1]
     refine ah [0,1] 1 [1] (by simp) (by simp) (by simp) (by simp) hj (by simp) fun _ _=>?_
     simp (disch:=omega) [-List.reduceReplicate,hsb,hand]
     exact hM.out _<|Nx.mk (fu,v',orW o (bn t sign (64 * i + z))) (by simp [bK]) ⟨hok.or hfo,by simp only; omega,by simp only; omega,fun j hj hb=>hsub j hj (by rw [g3] at hb; simp at hb; exact hb.1),hb⟩ (by simp only; omega)
 · have:i=8:=by omega
   subst this
   have hd:s.drop 8=[]:=List.drop_of_length_le (by omega)
   rw [hd] at hi
   simp only [m9] at hi
   subst hi
   have h8o:=h8 out hRl
   simp (disch:=omega) [-List.reduceReplicate,bK,hRl,h8o,cE]
def be (N:Net) (q:Nat):List Nat:=BL (fq N.edges N.n q)
def gL (ws:List Nat) (i:Nat) (t:List (List Nat)) (c:Nat):List (List Nat):=match t[i]? with
 | some r=>t.set i (cP 8 (8 * (c - 32)) r ws)
 | none=>t
def loE (e:NEdge):Nat:=if e.low < 32 then 32 else e.low
def hiE (e:NEdge):Nat:=if 126 < e.high then 126 else e.high
def rF (N:Net) (t:List (List Nat)) (e:NEdge):List (List Nat):=(List.range' (loE e) (hiE e + 1 - loE e)).foldl (gL (be N e.to) e.fr) t
def lO:List Nat:=List.replicate 760 0
def dL (N:Net):List (List Nat):=N.edges.foldl (rF N) (List.replicate N.n lO)
theorem lB {N:Net} (h:N.ok) {q:Nat} (hq:q < N.n):(∀ p∈fq N.edges N.n q,p < 512)∧(fq N.edges N.n q).length≤1000000:=by
 have hto:∀ e∈N.edges,e.to < N.n:=fun e he=>(h.ends e he).2.1
 have hle:=h.le
 refine ⟨fun p hp=>?_,?_⟩
 · have:=((uH hto hq).1 hp).lt hto hq
   omega
 · have:∀ (l:List Bool) (q:Nat),(dc q l).length≤l.length:=by
    intro l
    induction l with
    | nil=>intro q; simp [dc]
    | cons b l ih=>
      intro q
      have:=ih (q + 1)
      simp only [dc]
      split<;>simp<;>omega
   have h1:=this (lC N.edges N.n q) 0
   rw [(iA hto hq).1] at h1
   rw [fq]
   omega
theorem ea {N:Net} (h:N.ok) {q:Nat} (hq:q < N.n):wOK (be N q):=Hu (lB h hq).1
structure tOK (n:Nat) (t:List (List Nat)):Prop where
 len:t.length=n
 rows:∀ r∈t,r.length=760∧∀ w∈r,w < 18446744073709551616
theorem LS {k off:Nat} {r t:List Nat} (hr:∀ w∈r,w < 18446744073709551616) (ht:∀ w∈t,w < 18446744073709551616):∀ w∈cP k off r t,w < 18446744073709551616:=by
 intro w hw
 simp only [cP,List.mem_append] at hw
 rcases hw with hw | hw | hw
 · exact hr w (List.mem_of_mem_take hw)
 · have:=List.mem_of_mem_take hw
   obtain ⟨i,hi⟩:=List.mem_iff_getElem?.1 this
   simp only [orW,List.getElem?_zipWith] at hi
   cases h1:((r.drop off).take 8)[i]? with
   | none=>simp [h1] at hi
   | some a=>cases h2:t[i]? with
     | none=>simp [h1,h2] at hi
     | some b=>
       simp only [h1,h2,Option.some.injEq] at hi
       rw [←hi]
       exact HL (hr a (List.mem_of_mem_drop (List.mem_of_mem_take (List.mem_of_getElem? h1)))) (ht b (List.mem_of_getElem? h2))
 · exact hr w (List.mem_of_mem_drop hw)
theorem tOK.join {n:Nat} {t:List (List Nat)} (h:tOK n t) {ws:List Nat} (hws:wOK ws) {i c:Nat} (hc:c - 32 < 95):tOK n (gL ws i t c):=by
 unfold gL
 split
 · rename_i r hr
   obtain ⟨h1,h2⟩:=h.rows r (List.mem_of_getElem? hr)
   refine ⟨by simp [h.len],fun x hx=>?_⟩
   rcases List.mem_or_eq_of_mem_set hx with hx | rfl
   · exact h.rows x hx
   · exact ⟨by rw [wZ (by omega) hws.len (by omega),h1],LS h2 hws.lt⟩
 · exact h
theorem Ae {N:Net} (h:N.ok) (hl:N.edges.length≤1000000):Fn Tryz.prog yS [.strct (Net.c N)] (bK (dL N)):=by
 refine Fn.of_imageE mixed zO zo rfl fun ho=>?_
 unfold qk
 simp only [oks,ok,and_true] at ho
 clear ho
 have hle:=h.le
 obtain ⟨R,hR⟩:∃ R,R=dL N:=⟨_,rfl⟩
 rw [←hR]
 have hcl:∀ q,q < N.n→Fn Tryz.prog r5 [.strct (Net.c N),.seq 1 [nV q]] (bL (fq N.edges N.n q)):=fun q hq=>sD h hl hq
 obtain ⟨cl,hclD⟩:∃ cl,cl=(List.range N.n).map (be N):=⟨_,rfl⟩
 have hcll:cl.length=N.n:=by simp [hclD]
 have hclg:∀ q,q < N.n→cl[q]?=some (be N q):=fun q hq=>by rw [hclD,List.getElem?_map,List.getElem?_range hq]; rfl
 simp (disch:=omega) [-List.reduceReplicate]
 refine ak (fun k:Nat=>⟨[(1,.ptr 0 0),(3,.ref 1 N.n),(13,.int .i64 N.n),(14,nV k)],[some (.box (Net.c N)),some (.arr bm 8 (fh aP cE N.n (cl.take k)))]⟩) (fun k=>k≤N.n) (fun k=>N.n - k) [] _ 0 rfl (by simp [-List.reduceReplicate,←tQ,uh,aP]) (by simp) ?_
 intro k hk M hM
 rcases Nat.lt_or_ge k N.n with hlt | hge
 · have hx:=hclg k hlt
   have hak:(cl.take k).length=k:=by simp; omega
   have hfl:=tR (f:=aP) (d:=cE) (n:=N.n) (acc:=cl.take k) (by omega)
   have hg:=tS (f:=aP) (d:=cE) (n:=N.n) (acc:=cl.take k) (by omega)
   have hs:=tP (f:=aP) (d:=cE) (n:=N.n) (acc:=cl.take k) (by omega) (be N k)
   rw [hak] at hg hs
   rw [←aS hx] at hs
   obtain ⟨hc1,hc2⟩:=lB h hlt
   have hso:=uT _ hc1 hc2
   have hcc:=hcl k hlt
   have h8:((be N k).map az).length=8:=by simp [(ea h hlt).len]
   simp at hcc
   simp only [aP] at hs hg
   simp (disch:=omega) [-List.reduceReplicate]
   refine aj hcc (by simp) fun _=>?_
   simp (disch:=omega) [-List.reduceReplicate]
   refine ae hso (by simp [bY]) fun _=>?_
   simp only [show BL (fq N.edges N.n k)=be N k from rfl]
   have hz:cE.length=8:=rfl
   have hcs:=(ea h hlt).len
   have hzd:List.drop 8 (cE.map az)=[]:=rfl
   simp (disch:=omega) [-List.reduceReplicate,hfl,hg,hs,hcs,hz,hzd]
   exact hM.out _<|Nx.mk (k + 1) (by simp) (by omega) (by omega)
 · have:k=N.n:=by omega
   subst this
   have hff:fh aP cE N.n (cl.take N.n)=cl.map aP:=by rw [List.take_of_length_le (by omega)]; exact rb hcll
   have hz760:V.strct (List.replicate 760 (V.int .u64 0))=aP lO:=by simp [-List.reduceReplicate,aP,lO,az]
   simp (disch:=omega) [-List.reduceReplicate,hff,hz760]
   refine ak (fun (x:Nat × List (List Nat))=>⟨[(3,.ref 0 N.n),(5,.ref 1 N.n),(30,j2 N.edges),(31,.int .i64 N.edges.length),(32,nV x.1)],[some (.arr bm 8 (cl.map aP)),some (.arr fQ 760 (x.2.map aP))]⟩)
    (fun x=>x.1≤N.edges.length∧tOK N.n x.2∧(N.edges.drop x.1).foldl (rF N) x.2=R) (fun x=>N.edges.length - x.1) [] _ (0,List.replicate N.n lO) rfl (by simp [-List.reduceReplicate]) ⟨by simp,⟨by simp,fun r hr=>?_⟩,by simp [hR,dL]⟩ ?_
   · rw [List.mem_replicate] at hr
     rw [hr.2]
     exact ⟨by simp [lO],fun w hw=>by simp [lO] at hw; omega⟩
   clear hM hk hff hz760
   rintro ⟨k,t⟩ ⟨hk,ht,hi⟩ M' hM
   simp only at hk ht hi
   have htl:=ht.len
   rcases place N.edges k hk with ⟨he,hd⟩ | ⟨hlt,e,hx,hd⟩<;>rw [hd] at hi
   · simp only [List.foldl_nil] at hi
     subst hi
     simp (disch:=omega) [-List.reduceReplicate,he,htl]
     rfl
   · obtain ⟨g1,g2,g3,g4⟩:=h.ends e (List.mem_of_getElem? hx)
     simp only [List.foldl_cons] at hi
     obtain ⟨T,hT⟩:∃ T,T=rF N t e:=⟨_,rfl⟩
     rw [←hT] at hi
     replace hi:=hid hi
     have hlo:(if (e.low:Int) < 32 then (32:Int) else (e.low:Int))=(loE e:Int):=by unfold loE; split<;>split<;>omega
     have hlo':(if e.low < 32 then (32:Int) else (e.low:Int))=(loE e:Int):=by unfold loE; split<;>rfl
     have hhi:(if 126 < (e.high:Int) then (126:Int) else (e.high:Int))=(hiE e:Int):=by unfold hiE; split<;>split<;>omega
     have hlo2:32≤loE e∧loE e < 256:=by unfold loE; split<;>omega
     have hhi2:hiE e≤126:=by unfold hiE; split<;>omega
     simp (disch:=omega) [-List.reduceReplicate,hx,hlo]
     refine ak (fun (x:Nat × List (List Nat))=>⟨[(3,.ref 0 N.n),(5,.ref 1 N.n),(7,.ptr 2 0),(8,nV x.1),(30,j2 N.edges),(31,.int .i64 N.edges.length),(32,nV k)],[some (.arr bm 8 (cl.map aP)),some (.arr fQ 760 (x.2.map aP)),some (.box (NEdge.c e))]⟩)
      (fun x=>loE e≤x.1∧x.1≤256∧tOK N.n x.2∧(List.range' x.1 (hiE e + 1 - x.1)).foldl (gL (be N e.to) e.fr) x.2=T) (fun x=>256 - x.1) [] _ (loE e,t) rfl (by simp [NEdge.c,hlo']) ⟨by simp,by simp only; omega,ht,by simp [hT,rF]⟩ ?_
     rintro ⟨c,t'⟩ ⟨hc1,hc2,ht',hj⟩ P hP
     simp only at hc1 hc2 ht' hj
     have htl':=ht'.len
     rcases Nat.lt_or_ge (hiE e) c with hgt | hle2
     · rw [show hiE e + 1 - c=0 by omega] at hj
       simp only [List.range'_zero,List.foldl_nil] at hj
       subst hj
       simp (disch:=omega) [-List.reduceReplicate,NEdge.c,hhi]
       exact hM.out _<|Nx.mk (k + 1,t') (by simp) ⟨by simp only; omega,ht',hi.out⟩ (by simp only; omega)
     · obtain ⟨m',hm'⟩:∃ m',hiE e + 1 - c=m' + 1:=⟨hiE e - c,by omega⟩
       rw [hm'] at hj
       simp only [List.range'_succ,List.foldl_cons] at hj
       obtain ⟨r,hr⟩:=ap (l:=t') (k:=e.fr) (by omega)
       obtain ⟨hr1,hr2⟩:=ht'.rows r (List.mem_of_getElem? hr)
       have hjoin:=C7 fQ bm t' cl e.fr e.to (8 * (c - 32)) r (be N e.to) hr (hclg _ g2) hr2 hr1 (by omega) (ea h g2)
       have hja:gL (be N e.to) e.fr t' c=t'.set e.fr (cP 8 (8 * (c - 32)) r (be N e.to)):=by simp [gL,hr]
       rw [←hja] at hjoin
       have ht2:=ht'.join (ea h g2) (i:=e.fr) (c:=c) (by omega)
       obtain ⟨t2,ht2e⟩:∃ t2,t2=gL (be N e.to) e.fr t' c:=⟨_,rfl⟩
       rw [←ht2e] at hjoin hj ht2
       have hc3:((c:Int) - 32).toNat * 8=8 * (c - 32):=by omega
       have hrw:(fun r:List Nat=>V.strct (r.map az))=aP:=rfl
       rw [hrw] at hjoin
       simp (disch:=omega) [-List.reduceReplicate,NEdge.c,hhi,htl',hcll,hc3]
       refine d5 [0,1] 2 [1,0] (by simp [htl',hcll,g1,g2]) (by simp) (by simp [htl',hcll]) (by simp) hjoin (by simp) ?_
       simp (disch:=omega) [-List.reduceReplicate]
       exact hP.out _<|Nx.mk (c + 1,t2) (by simp [NEdge.c]) ⟨by simp only; omega,by simp only; omega,ht2,by simpa [show hiE e + 1 - (c + 1)=m' by omega] using hj⟩ (by simp only; omega)
def lZ (b:List Bool) (e:NEdge):List Bool:=if hiE e < loE e then b else
 if hiE e < 126 then (b.set (loE e - 32) true).set (hiE e + 1 - 32) true else b.set (loE e - 32) true
def gE (N:Net):List Bool:=N.edges.foldl lZ ((List.replicate 95 false).set 0 true)
theorem AX (b:List Bool) (e:NEdge):(lZ b e).length=b.length:=by unfold lZ; split; rfl; split<;>simp
theorem FC (l:List Bool):ai (l.map V.bool)=[]:=oC (fun _=>rfl) l
theorem IX (hp:List (Option Ob)) (l:List Bool):purs hp (l.map V.bool)=some (l.map V.bool):=rQ (fun _=>rfl) l
theorem IW (m:List Nat) (l:List Bool):cW m (l.map V.bool)=l.map V.bool:=rN (fun _=>rfl) l
theorem JZ (m:List Nat) (l:List Bool):kM m (l.map V.bool)=l.map V.bool:=s4 (fun _=>rfl) l
theorem GE (l:List Bool):dx (l.map V.bool)=true:=iK (fun _=>rfl) l
attribute [simp] FC IX IW JZ GE
theorem PT:List.replicate 95 (V.bool false)=(List.replicate 95 false).map V.bool:=by simp [-List.reduceReplicate]
attribute [-simp] List.map_set
theorem Ag {N:Net} (h:N.ok) (hl:N.edges.length≤1000000):Fn Tryz.prog yV [.strct (Net.c N)] (.strct ((gE N).map .bool)):=by
 refine Fn.of_image mixed zR zr rfl fun ho=>?_
 unfold qn
 simp only [oks,ok,and_true] at ho
 clear ho
 obtain ⟨R,hR⟩:∃ R,R=gE N:=⟨_,rfl⟩
 rw [←hR]
 obtain ⟨z,hz⟩:∃ z:List Bool,z=List.replicate 95 false:=⟨_,rfl⟩
 have hzl:z.length=95:=by simp [hz]
 have hzz:List.replicate 95 (V.bool false)=z.map V.bool:=by rw [hz]; exact PT
 have hsp:V.bool true::(z.map V.bool).tail=(z.set 0 true).map V.bool:=by
  rw [hz]; rfl
 simp (disch:=omega) [-List.reduceReplicate,hzz,hzl,hsp]
 refine ak (fun (x:Nat × List Bool)=>⟨[(2,.ptr 0 0),(3,.ptr 1 0),(10,j2 N.edges),(11,.int .i64 N.edges.length),(12,nV x.1)],[some (.box (z.map V.bool)),some (.box (x.2.map V.bool))]⟩)
  (fun x=>x.1≤N.edges.length∧x.2.length=95∧(N.edges.drop x.1).foldl lZ x.2=R) (fun x=>N.edges.length - x.1) [] _ (0,z.set 0 true) rfl (by simp) ⟨by simp,by simp [hzl],by simp [hR,gE,hz]⟩ ?_
 rintro ⟨k,b⟩ ⟨hk,hb,hi⟩ M hM
 simp only at hk hb hi
 rcases place N.edges k hk with ⟨he,hd⟩ | ⟨hlt,e,hx,hd⟩<;>rw [hd] at hi
 · simp only [List.foldl_nil] at hi
   subst hi
   have hf:List.take 95 (b.map V.bool)=b.map V.bool:=List.take_of_length_le (by simp; omega)
   have hf2:List.drop 95 (z.map V.bool)=[]:=List.drop_of_length_le (by simp; omega)
   simp (disch:=omega) [-List.reduceReplicate,he,hb,hf,hzl,hf2]
 · obtain ⟨g1,g2,g3,g4⟩:=h.ends e (List.mem_of_getElem? hx)
   simp only [List.foldl_cons] at hi
   have hml:=AX b e
   obtain ⟨T,hT⟩:∃ T,T=lZ b e:=⟨_,rfl⟩
   rw [←hT] at hi hml
   replace hi:=hid hi
   have hlo:(if (e.low:Int) < 32 then (32:Int) else (e.low:Int))=(loE e:Int):=by unfold loE; split<;>split<;>omega
   have hhi:(if 126 < (e.high:Int) then (126:Int) else (e.high:Int))=(hiE e:Int):=by unfold hiE; split<;>split<;>omega
   have hlo':(if e.low < 32 then (32:Int) else (e.low:Int))=(loE e:Int):=by unfold loE; split<;>rfl
   have hhi':(if 126 < e.high then (126:Int) else (e.high:Int))=(hiE e:Int):=by unfold hiE; split<;>rfl
   have hlo2:32≤loE e∧loE e < 256:=by unfold loE; split<;>omega
   have hhi2:hiE e≤126:=by unfold hiE; split<;>omega
   obtain ⟨lo,hlod⟩:∃ lo,lo=loE e:=⟨_,rfl⟩
   obtain ⟨hh,hhid⟩:∃ hh,hh=hiE e:=⟨_,rfl⟩
   rw [←hlod] at hlo hlo' hlo2
   rw [←hhid] at hhi hhi' hhi2
   simp only [lZ,←hlod,←hhid] at hT
   have h1:((lo:Int) - 32).toNat=lo - 32:=by omega
   have h2:((hh:Int) + 1 - 32).toNat=hh - 31:=by omega
   simp (disch:=omega) [-List.reduceReplicate,hx,hlo,hhi,hlo',hhi']
   refine BrKd.mk (fun hc=>?_) (fun hc=>?_)
   · rw [if_pos (by omega)] at hT
     subst hT
     simp (disch:=omega) [-List.reduceReplicate]
     exact hM.out _<|Nx.mk (k + 1,T) (by simp) ⟨by simp only; omega,by simp only; omega,hi.out⟩ (by simp only; omega)
   · rw [if_neg (by omega)] at hT
     have hs1:=iS (l:=b.map V.bool) (j:=lo - 32) (v:=.bool true) (by simp; omega)
     rw [show (b.map V.bool).set (lo - 32) (.bool true)=(b.set (lo - 32) true).map V.bool by rw [List.map_set]] at hs1
     have hs2:=iS (l:=(b.set (lo - 32) true).map V.bool) (j:=hh - 31) (v:=.bool true)
     rw [show ((b.set (lo - 32) true).map V.bool).set (hh - 31) (.bool true)=((b.set (lo - 32) true).set (hh - 31) true).map V.bool by rw [List.map_set,List.map_set,List.map_set]] at hs2
     simp (disch:=omega) [-List.reduceReplicate,h1,hs1,hb]
     refine BrKd.mk (fun hc2=>?_) (fun hc2=>?_)
     · rw [if_pos (by omega)] at hT
       replace hs2:=hs2 (by simp; omega)
       simp (disch:=omega) [-List.reduceReplicate,h2,hs2,hb]
       exact hM.out _<|Nx.mk (k + 1,T) (by simp [hT]) ⟨by simp only; omega,by simp only; omega,hi.out⟩ (by simp only; omega)
     · rw [if_neg (by omega)] at hT
       simp (disch:=omega) [-List.reduceReplicate]
       exact hM.out _<|Nx.mk (k + 1,T) (by simp [hT]) ⟨by simp only; omega,by simp only; omega,hi.out⟩ (by simp only; omega)
def ktS:KT:=⟨true,kz 8 (.i .u64)⟩
theorem xT (a b:List Nat):eqK (aP a) (aP b)=decide (a=b):=by simp [eqK,aP,cl,E0]
theorem oR {k:List Nat} (h:k.length=8):aO ktS (aP k)=true:=by
 simp only [aO,aP,dA,cl,ktS,Em,h]
 simp
theorem sE (q:List Nat) (hq:q.length=8):FnH Tryz.prog eC [0] [.ptr 0 0,aP q] (lh ktS 8) (nV 0) (c8 ktS bm 8 aP [q]):=by
 refine FnH.of_image mixed eY eR rfl fun ho hh=>?_
 unfold cR
 clear ho hh
 have hf:=oR hq
 have ht:List.take 8 (q.map az)=q.map az:=List.take_of_length_le (by simp; omega)
 simp only [aP,ktS] at hf
 simp (disch:=omega) [-List.reduceReplicate,lh,c8,ktS,aP,gk,io,cn,hf,hq,ht]
theorem pX (l:List (List Nat)) (q:List Nat) (hl:l.length≤1000000) (hq:q.length=8):FnH Tryz.prog eC [0] [.ptr 0 0,aP q] (c8 ktS bm 8 aP l) (nV (fP eqB l q)) (c8 ktS bm 8 aP (bF eqB l q)):=by
 refine FnH.of_image mixed eY eR rfl fun ho hh=>?_
 unfold cR
 clear ho hh
 have hf:=oR hq
 have ht:List.take 8 (q.map az)=q.map az:=List.take_of_length_le (by simp; omega)
 simp only [aP,ktS] at hf
 have hm:=ku xT q l 0
 cases hp:pos eqB q l with
 | some i=>
   rw [hp] at hm
   replace hm:gk (.strct (q.map az)) (cn aP 0 l)=some (.int .i64 (i:Int)):=by simpa [nV,aP] using hm
   obtain ⟨h1,h2⟩:=fw hp
   rw [h1,h2]
   simp (disch:=omega) [-List.reduceReplicate,c8,ktS,aP,hm,hf,hq,ht]
 | none=>
   rw [hp] at hm
   replace hm:gk (.strct (q.map az)) (cn aP 0 l)=none:=by simpa [nV,aP] using hm
   have hpt:=kq xT q l 0 hp
   replace hpt:io (.strct (q.map az)) (.int .i64 (l.length:Int)) (cn aP 0 l)=cn aP 0 (l++[q]):=by simpa [nV,aP] using hpt
   obtain ⟨h1,h2⟩:=kN hp
   rw [h1,h2]
   simp (disch:=omega) [-List.reduceReplicate,c8,ktS,aP,hm,hpt,hf,hq,ht]
theorem GV (q:List Nat) (hq:q.length=8):FnH Tryz.prog qH [] [.seq 8 [aP q]] [] (.ptr 0 0) (c8 ktS bm 8 aP [q]):=by
 refine FnH.of_image mixed qX qR rfl fun ho hh=>?_
 unfold ju
 clear ho hh
 have ht:List.take 8 (q.map az)=q.map az:=List.take_of_length_le (by simp; omega)
 have hd:List.drop 8 (q.map az)=[]:=List.drop_of_length_le (by simp; omega)
 simp (disch:=omega) [-List.reduceReplicate]
 refine ak (fun k:Nat=>if k=0 then ⟨[(3,.ptr 0 0),(9,.seq 8 [aP q]),(10,.int .i64 1),(11,.int .i64 0)],lh ktS 8⟩ else ⟨[(3,.ptr 0 0),(9,.seq 8 [aP q]),(10,.int .i64 1),(11,.int .i64 1)],c8 ktS bm 8 aP [q]⟩) (fun k=>k≤1) (fun k=>1 - k) [] _ 0 rfl (by simp [lh,ktS]) (by simp) ?_
 intro k hk N hN
 rcases (show k=0∨k=1 by omega) with rfl | rfl
 · simp (disch:=omega) [-List.reduceReplicate,lh,aP,hq,ht,uh,hd,cE]
   refine ah [0] 1 [0,1] (by simp) (by simp) (by simp [aP]) (by simp) (sE q hq) (by simp [c8]) fun _ _=>?_
   simp (disch:=omega) [-List.reduceReplicate,c8,lh]
   exact hN.out _<|Nx.mk 1 (by simp [c8,aP]) (by simp) (by simp)
 · simp (disch:=omega) [-List.reduceReplicate,c8,aP]
def cH (t:List (List Nat)) (s:List Nat) (c:Nat):List Nat:=ofW (bn t c) s
structure dSet (n:Nat) (s:List Nat):Prop where
 ok:wOK s
 lt:∀ p < 512,bg s p=true→p < n
def LH (bd:List Bool) (t:List (List Nat)) (L:List Nat):List (Option Ob):=[some (.box (bd.map V.bool)),some (.box [bK t]),some (.box (L.map az))]
attribute [simp] LH
theorem G1 (bd:List Bool) (hbd:bd.length=95) (t:List (List Nat)) (ht:stepsOK t) (L s:List Nat) (hL:L.length=8) (hs:dSet t.length s) (c:Nat) (hc:c < 95) (b:Bool) (hb:bd[c]?=some b):
 FnH Tryz.prog fH [2,3,4] [aP s,nV c,.ptr 0 0,.ptr 1 0,.ptr 2 0] (LH bd t L) (aP (if b=true then cH t s c else L)) (LH bd t (if b=true then cH t s c else L)):=by
 refine FnH.of_image mixed GA Gt rfl fun ho hh=>?_
 unfold yl
 clear ho hh
 have hsl:=hs.ok.len
 have h8:∀ x:List Nat,x.length=8→List.take 8 (x.map az)=x.map az:=fun x hx=>List.take_of_length_le (by simp; omega)
 have hd8:∀ x:List Nat,x.length=8→List.drop 8 (x.map az)=[]:=fun x hx=>List.drop_of_length_le (by simp; omega)
 have h8s:=h8 s hsl
 have h8L:=h8 L hL
 have hd8L:=hd8 L hL
 have hc1:=bN (l:=bd.map V.bool) (j:=c) (v:=.bool b) (by rw [List.getElem?_map,hb]; rfl)
 have hst:(cH t s c).length=8:=(m8 hs.ok fun q _=>ht.set hc q).1.len
 have h8t:=h8 _ hst
 have hof:=GI t ht s hs.ok c hc hs.lt
 rw [show ofW (bn t c) s=cH t s c from rfl] at hof
 cases b
 · simp (disch:=omega) [-List.reduceReplicate,bK,aP,hc1,hbd,h8L,hL,cE]
 · simp only [bK] at hof
   simp (disch:=omega) [-List.reduceReplicate,bK,aP,hc1,hbd,h8s,hsl]
   refine ae hof (by simp [bY]) fun _=>?_
   simp (disch:=omega) [-List.reduceReplicate,bK,h8t,hst,hL,hd8L,cE]
attribute [simp] bK
def wsH (bd:List Bool) (t:List (List Nat)) (L:List Nat) (rows:List (List Nat)) (l:List (List Nat)):List (Option Ob):=[some (.box (bd.map V.bool)),some (.box [bK t]),some (.box (L.map az)),some (.box [.ref 5 0,.ref 6 l.length]),some (.arr aD 1 (rows.map bL)),some (.mp ktS (cn aP 0 l)),some (.arr bm 8 (l.map aP))]
def wsI (bd:List Bool) (t:List (List Nat)) (L:List Nat) (rows:List (List Nat)) (l:List (List Nat)) (acc last:List Nat):List (Option Ob):=[some (.box (bd.map V.bool)),some (.box [bK t]),some (.box (L.map az)),some (.box [.ref 7 0,.ref 8 l.length]),some (.arr aD 1 (rows.map bL)),some (.arr aw 1 (gx acc)),some (.box (last.map az)),some (.mp ktS (cn aP 0 l)),some (.arr bm 8 (l.map aP))]
def A5 (t:List (List Nat)) (l:List (List Nat)) (L:List Nat):Nat→List Nat
 | 0=>L
 | i + 1=>match l[i]? with
   | some q=>cH t q 94
   | none=>L
theorem ET (bd:List Bool) (hbd:bd.length=95) (t:List (List Nat)) (ht:stepsOK t) (hin:∀ q c,c < 95→∀ p < 512,bg (bn t c q) p=true→p < t.length)
 (hb0:bd[0]?=some true) (hbn:∀ c,c + 1 < 95→bd[c + 1]?=some false→∀ s,dSet t.length s→cH t s (c + 1)=cH t s c)
 (L0:List Nat) (hL0:L0.length=8) (most:Nat) (hm:most≤100000) (start:List Nat) (h0:dSet t.length start) (list:List (List Nat)) (rows:List (List Nat)) (hw:um eqB (cH t) start most=some (list,rows)):
 FnH Tryz.prog qG [1] [aP start,.fn (.func fH) [] [.ptr 0 0,.ptr 1 0,.ptr 2 0],nV most] (LH bd t L0) (.tup [.ref 3 list.length,.ref 4 rows.length,.bool true]) (LH bd t (A5 t list L0 list.length)++[some (.arr bm 8 (list.map aP)),some (.arr aD 1 (rows.map bL))]):=by
 refine FnH.of_image mixed qW qQ rfl fun ho hh=>?_
 unfold jt
 clear ho hh
 have hdn:∀ s c,dSet t.length s→c < 95→dSet t.length (cH t s c):=fun s c hs hc=>by
  obtain ⟨g1,g2⟩:=m8 hs.ok fun q _=>ht.set hc q
  refine ⟨g1,fun p hp hh=>?_⟩
  obtain ⟨r,hr,h1,h2⟩:=(g2 p hp).1 hh
  exact hin r c hc p hp h2
 have h8:∀ x:List Nat,x.length=8→List.take 8 (x.map az)=x.map az:=fun x hx=>List.take_of_length_le (by simp; omega)
 have hd8:∀ x:List Nat,x.length=8→List.drop 8 (x.map az)=[]:=fun x hx=>List.drop_of_length_le (by simp; omega)
 have hst:=h0.ok.len
 have h8s:=h8 start hst
 have hz:cE.length=8:=rfl
 have hzd:List.drop 8 (cE.map az)=[]:=rfl
 obtain ⟨RL,hRL⟩:∃ RL,RL=A5 t list L0 list.length:=⟨_,rfl⟩
 rw [←hRL]
 simp (disch:=omega) [-List.reduceReplicate,aP,hst,h8s]
 refine ah [] 0 [] (by simp) (by simp) (by simp [aP]) (by simp) (GV start hst) (by simp) fun _ _=>?_
 simp (disch:=omega) [-List.reduceReplicate]
 refine ak (fun (x:Nat × Nat × List (List Nat) × List (List Nat) × List Nat)=>⟨[(1,.fn (.func fH) [] [.ptr 0 0,.ptr 1 0,.ptr 2 0]),(2,nV most),(9,.ptr 3 0),(10,.ref 4 x.2.2.2.1.length),(11,nV x.2.1)],wsH bd t x.2.2.2.2 x.2.2.2.1 x.2.2.1⟩)
  (fun x=>(∀ q∈x.2.2.1,dSet t.length q)∧gF eqB x.2.2.1∧x.2.1≤x.2.2.1.length∧x.2.2.2.1.length=x.2.1∧x.2.2.1.length≤most + 1∧x.2.2.2.2=A5 t x.2.2.1 L0 x.2.1∧x.2.2.2.2.length=8∧bI eqB (cH t) most x.1 x.2.1 x.2.2.1 x.2.2.2.1=some (list,rows)) (fun x=>x.1) [.r 10 aD 1] _ (most + 2,0,[start],[],L0) rfl (by simp [wsH,cn,bK]) ⟨by simpa using h0,gF.one _,by simp,rfl,by simp,rfl,hL0,hw⟩ ?_
 rintro ⟨f,i,l,rw,L⟩ ⟨hd,hap,hil,hrl,hlm,hLe,hLl,hi⟩ N hN
 simp only at hd hap hil hrl hlm hLe hLl hi
 cases f with
 | zero=>simp [bI] at hi
 | succ f=>
 simp only [bI] at hi
 rcases Nat.lt_or_ge i l.length with hlt | hge
 · obtain ⟨q,hq⟩:=ap hlt
   rw [hq] at hi
   simp only at hi
   have hqn:=hd q (List.mem_of_getElem? hq)
   have hql:=hqn.ok.len
   have h8q:=h8 q hql
   obtain ⟨T,hT⟩:∃ T,T=aB eqB (cH t q) 95 0 l:=⟨_,rfl⟩
   rw [←hT] at hi
   replace hi:=hid hi
   simp (disch:=omega) [-List.reduceReplicate,wsH,hq,aP,hql,h8q,uh,hz,hzd]
   refine ak (fun (x:List Nat × List (List Nat) × List Nat × Nat × List Nat)=>⟨[(1,.fn (.func fH) [] [.ptr 0 0,.ptr 1 0,.ptr 2 0]),(2,nV most),(9,.ptr 3 0),(10,.ref 4 rw.length),(11,nV i),(12,.ref 5 95),(13,.ptr 6 0),(14,nV x.2.2.2.1),(39,.int .i64 95),(40,nV x.1.length)],wsI bd t x.2.2.2.2 rw x.2.1 x.1 x.2.2.1⟩)
    (fun x=>(∀ q∈x.2.1,dSet t.length q)∧x.1.length≤95∧x.2.1[i]?=some q∧x.2.1.length≤most + 1 + x.1.length∧x.2.2.1.length=8∧x.2.2.2.2.length=8∧(∀ c,x.1.length=c + 1→x.2.2.2.2=cH t q c)∧pos eqB x.2.2.1 x.2.1=some x.2.2.2.1∧(x.1++(aB eqB (cH t q) (95 - x.1.length) x.1.length x.2.1).1,(aB eqB (cH t q) (95 - x.1.length) x.1.length x.2.1).2)=T)
    (fun x=>95 - x.1.length) [] _ ([],l,q,i,L) rfl (by simp [wsI,tO,bK]) ⟨hd,by simp,hq,by simp; omega,hql,hLl,by simp,vK hap hq,by simp [hT]⟩ ?_
   rintro ⟨acc,l',last,num,L'⟩ ⟨hd',hc,hq',hl',hll,hLl',hLc,hp,hi'⟩ M hM
   simp only at hd' hc hq' hl' hll hLl' hLc hp hi'
   have hil':=(List.getElem?_eq_some_iff.1 hq').1
   rcases Nat.lt_or_ge acc.length 95 with hc95 | hc95
   · obtain ⟨b,hb⟩:=ap (l:=bd) (k:=acc.length) (by omega)
     have hof:=G1 bd hbd t ht L' q hLl' hqn acc.length hc95 b hb
     have hto:(if b=true then cH t q acc.length else L')=cH t q acc.length:=by
      cases b with
      | true=>rfl
      | false=>
        cases hac:acc.length with
        | zero=>rw [hac,hb0] at hb; cases hb
        | succ c=>
          rw [hac] at hb
          rw [hLc c hac,hbn c (by omega) hb q hqn]
          rfl
     rw [hto] at hof
     obtain ⟨to,htoe⟩:∃ to,to=cH t q acc.length:=⟨_,rfl⟩
     rw [←htoe] at hof
     have hton:=hdn q acc.length hqn hc95
     rw [←htoe] at hton
     have htol:=hton.ok.len
     obtain ⟨m',hm'⟩:∃ m',95 - acc.length=m' + 1:=⟨94 - acc.length,by omega⟩
     have hm2:95 - (acc.length + 1)=m':=by omega
     rw [hm'] at hi'
     simp only [aB,←htoe] at hi'
     have hset:=tN hc95
     have hfl:=iL (acc:=acc) (by omega)
     have h8t:=h8 to htol
     have h8l:=h8 last hll
     have hd8l:=hd8 last hll
     have ff1:=oR htol
     have ff2:=oR hll
     have feq:=xT to last
     simp only [aP,ktS] at ff1 ff2 feq
     replace hi':=hid hi'
     simp (disch:=omega) [-List.reduceReplicate,wsI,hq',aP,hql,h8q]
     refine ah [2,3,4] 3 [0,1,2] (by simp) (by simp) (by simp [aP]) (by simp) hof (by simp) fun _ _=>?_
     simp (disch:=omega) [-List.reduceReplicate,aP,htol,hz,hzd,uh,h8t,h8l,hll,ff1,ff2,feq]
     have next:∀ (num':Nat) (last':List Nat),last'.length=8→pos eqB last' (bF eqB l' to)=some num'→num'=fP eqB l' to→∀ τ:St,τ.nrm [1,2,9,10,11,12,13,14,39,40]=⟨[(1,.fn (.func fH) [] [.ptr 0 0,.ptr 1 0,.ptr 2 0]),(2,nV most),(9,.ptr 3 0),(10,.ref 4 rw.length),(11,nV i),(12,.ref 5 95),(13,.ptr 6 0),(14,nV num'),(39,.int .i64 95),(40,.int .i64 ((acc.length:Int) + 1))],wsI bd t to rw (bF eqB l' to) (acc++[num']) last'⟩→M τ:=by
      intro num' last' h0 h1 h2 τ hτ
      have h3:=vV l' to
      refine hM.out τ<|Nx.mk (acc++[num'],bF eqB l' to,last',num',to) (by simpa using hτ) ⟨?_,by simp; omega,yr hq',by simp; omega,h0,htol,?_,h1,?_⟩ (by simp; omega)
      · intro x hx
        rcases oy hx with hx | rfl
        · exact hd' x hx
        · exact hton
      · intro c hc
        simp at hc
        rw [htoe,hc]
      · have:=hi'.out
        rw [←this]
        simp [hm2,h2]
     replace next:=hid next
     by_cases hlt2:to=last
     · subst hlt2
       obtain ⟨e1,e2⟩:=fw hp
       have hs:=hset num
       simp only [nV] at hs
       simp (disch:=omega) [-List.reduceReplicate,hfl,hs,iM hc95]
       exact next.out num to hll (by rw [e2]; exact hp) e1.symm _ (by simp [wsI,e2])
     · simp (disch:=omega) [-List.reduceReplicate,hlt2,htol,h8t]
       refine ct ⟨[(1,.fn (.func fH) [] [.ptr 0 0,.ptr 1 0,.ptr 2 0]),(2,nV most),(9,.ptr 3 0),(10,.ref 4 rw.length),(11,nV i),(12,.ref 5 95),(13,.ptr 6 0),(14,nV (fP eqB l' to)),(15,nV acc.length),(39,.int .i64 95),(40,nV acc.length)],wsI bd t to rw (bF eqB l' to) acc to⟩ (fun F hF=>?_) ?_
       · simp [wsI] at hF
         refine BC.mk ?_ ?_
         · simp (disch:=omega) [-List.reduceReplicate,aP,htol,h8t]
           refine d5 [0] 1 [3,7,8] (by simp) (by simp) (by simp [aP]) (by simp) (pX l' to (by omega) htol) (by simp) ?_
           simp (disch:=omega) [-List.reduceReplicate,hll,hd8l,htol]
           exact hF
         · simp (disch:=omega) [-List.reduceReplicate,aP,htol,h8t]
           refine d5 [0] 1 [3,7,8] (by simp) (by simp) (by simp [aP]) (by simp) (pX l' to (by omega) htol) (by simp) ?_
           simp (disch:=omega) [-List.reduceReplicate,hll,hd8l,htol,h8t]
           exact hF
       have hs:=hset (fP eqB l' to)
       simp only [nV] at hs
       simp (disch:=omega) [-List.reduceReplicate,wsI,hfl,hs,iM hc95]
       exact next.out _ to htol (BU l' to) rfl _ (by simp [wsI])
   · have hacc:acc.length=95:=by omega
     have h0:95 - acc.length=0:=by omega
     rw [h0] at hi'
     simp only [aB,List.append_nil] at hi'
     subst hi'
     have hi2:=hi.out
     simp only at hi2
     split at hi2
     · cases hi2
     · rename_i hle
       have hf:=ra hacc
       have hfl:(gx acc).length=95:=iL (by omega)
       have hLast:L'=A5 t l' L0 (i + 1):=by rw [hLc 94 (by omega)]; simp [A5,hq']
       simp (disch:=omega) [-List.reduceReplicate,wsI,hacc,hfl]
       refine hN.out _<|Nx.mk (f,i + 1,l',rw++[acc],L') (by simp [wsH,hf,hrl]) ⟨hd',?_,by simp only; omega,by simp [hrl],by simp only; omega,hLast,hLl',hi2⟩ (by simp only; omega)
       have:=dq (e:=eqB) (cH t q) 95 0 l hap
       rw [←hT] at this
       exact this
 · have hil2:i=l.length:=by omega
   rw [List.getElem?_eq_none (by omega)] at hi
   simp only [Option.some.injEq,Prod.mk.injEq] at hi
   obtain ⟨rfl,rfl⟩:=hi
   subst hil2
   rw [←hRL] at hLe
   subst hLe
   simp (disch:=omega) [-List.reduceReplicate,wsH]
end Go.Abs
end
section
set_option maxHeartbeats 1000000
namespace Go.Abs
open Go.Aut
attribute [-simp] getElem?_pos Option.not_isSome List.map_map
theorem OX {off:Nat} {r t:List Nat} (hr:off + 8≤r.length) (ht:t.length=8) (k:Nat):(cP 8 off r t)[k]?=if off≤k∧k < off + 8 then (orW ((r.drop off).take 8) t)[k - off]? else r[k]?:=by
 have h8:=rT hr ht
 have hto:(orW ((r.drop off).take 8) t).take 8=orW ((r.drop off).take 8) t:=List.take_of_length_le (by omega)
 rw [cP,hto]
 rcases Nat.lt_or_ge k off with h1 | h1
 · rw [List.getElem?_append_left (by simp; omega),if_neg (by omega),List.getElem?_take,if_pos h1]
 · rw [List.getElem?_append_right (by simp; omega)]
   have e:k - (r.take off).length=k - off:=by simp; omega
   rw [e]
   rcases Nat.lt_or_ge k (off + 8) with h2 | h2
   · rw [List.getElem?_append_left (by rw [h8]; omega),if_pos ⟨h1,h2⟩]
   · rw [List.getElem?_append_right (by rw [h8]; omega),if_neg (by omega),List.getElem?_drop,h8]
     congr 1
     omega
theorem Ge {a b:Nat} {r t:List Nat} (hr:8 * a + 8≤r.length) (hb:8 * b + 8≤r.length) (ht:t.length=8):((cP 8 (8 * a) r t).drop (8 * b)).take 8=if a=b then orW ((r.drop (8 * b)).take 8) t else (r.drop (8 * b)).take 8:=by
 have h8:=rT hr ht
 refine List.ext_getElem? fun k=>?_
 rw [List.getElem?_take]
 rcases Nat.lt_or_ge k 8 with hk | hk
 · rw [if_pos hk,List.getElem?_drop,OX hr ht]
   by_cases hab:a=b
   · subst hab
     rw [if_pos (by omega),if_pos rfl]
     congr 1
     omega
   · rw [if_neg (by omega),if_neg hab,List.getElem?_take,if_pos hk,List.getElem?_drop]
 · rw [if_neg (by omega)]
   split
   · rename_i hab
     subst hab
     rw [List.getElem?_eq_none (by omega)]
   · rw [List.getElem?_take,if_neg (by omega)]
theorem FQ {n:Nat} {t:List (List Nat)} (ht:tOK n t) {ws:List Nat} (hws:wOK ws) {i c sign q:Nat} (hi:i < n) (hc:32≤c∧c < 127) (hs:sign < 95):bn (gL ws i t c) sign q=if q=i∧c=sign + 32 then orW (bn t sign q) ws else bn t sign q:=by
 obtain ⟨r,hr⟩:∃ r,t[i]?=some r:=⟨_,List.getElem?_eq_getElem (by rw [ht.len]; exact hi)⟩
 obtain ⟨h1,h2⟩:=ht.rows r (List.mem_of_getElem? hr)
 have hj:gL ws i t c=t.set i (cP 8 (8 * (c - 32)) r ws):=by simp [gL,hr]
 rw [hj]
 by_cases hq:q=i
 · subst hq
   have e1:bn t sign q=(r.drop (8 * sign)).take 8:=by simp [bn,hr]
   have e2:bn (t.set q (cP 8 (8 * (c - 32)) r ws)) sign q=((cP 8 (8 * (c - 32)) r ws).drop (8 * sign)).take 8:=by
    simp only [bn]
    rw [List.getElem?_set_self (by rw [ht.len]; exact hi)]
   rw [e2,e1,Ge (by omega) (by omega) hws.len]
   by_cases hcs:c=sign + 32
   · rw [if_pos (by omega),if_pos ⟨rfl,hcs⟩]
   · rw [if_neg (by omega),if_neg (fun h=>hcs h.2)]
 · rw [if_neg (fun h=>hq h.1)]
   simp only [bn]
   rw [List.getElem?_set_ne (fun e=>hq e.symm)]
theorem rJ {n:Nat} {t:List (List Nat)} (ht:tOK n t) {sign:Nat} (hs:sign < 95) (q:Nat):wOK (bn t sign q):=by
 unfold bn
 split
 · rename_i r hr
   obtain ⟨h1,h2⟩:=ht.rows r (List.mem_of_getElem? hr)
   exact ⟨by simp; omega,fun w hw=>h2 w (List.mem_of_mem_drop (List.mem_of_mem_take hw))⟩
 · exact iQ
theorem A7 {n:Nat} {ws:List Nat} (hws:wOK ws) {i sign q:Nat} (hi:i < n) (hs:sign < 95):∀ (m c:Nat) (t:List (List Nat)),tOK n t→32≤c→c + m≤127→
 tOK n ((List.range' c m).foldl (gL ws i) t)∧∀ p < 512,bg (bn ((List.range' c m).foldl (gL ws i) t) sign q) p=(bg (bn t sign q) p || (decide (q=i∧c≤sign + 32∧sign + 32 < c + m) && bg ws p))
 | 0,c,t,ht,_,_=>⟨ht,fun p hp=>by simp; intro _ _ _; omega⟩
 | m + 1,c,t,ht,hc,hm=>by
   have ht2:=ht.join hws (i:=i) (c:=c) (by omega)
   obtain ⟨g1,g2⟩:=A7 hws hi hs m (c + 1) _ ht2 (by omega) (by omega)
   simp only [List.range'_succ,List.foldl_cons]
   refine ⟨g1,fun p hp=>?_⟩
   rw [g2 p hp,FQ ht hws hi (by omega) hs]
   by_cases hq:q=i
   · subst hq
     by_cases hcs:c=sign + 32
     · rw [if_pos ⟨rfl,hcs⟩,H3 (rJ ht hs q) hws hp,decide_eq_false (by omega),decide_eq_true (by omega)]
       simp
     · rw [if_neg (fun h=>hcs h.2)]
       congr 2
       exact decide_eq_decide.2 (by omega)
   · rw [if_neg (fun h=>hq h.1),decide_eq_false (fun h=>hq h.1),decide_eq_false (fun h=>hq h.1)]
def kT (e:NEdge) (sign:Nat):Bool:=decide (loE e≤sign + 32∧sign + 32≤hiE e)
theorem tc {N:Net} (h:N.ok) {sign q:Nat} (hs:sign < 95):∀ (es:List NEdge) (t:List (List Nat)),(∀ e∈es,e∈N.edges)→tOK N.n t→
 tOK N.n (es.foldl (rF N) t)∧∀ p < 512,bg (bn (es.foldl (rF N) t) sign q) p=true↔(bg (bn t sign q) p=true∨∃ e∈es,e.fr=q∧kT e sign=true∧bg (be N e.to) p=true)
 | [],t,_,ht=>⟨ht,fun p hp=>by simp⟩
 | e::es,t,hes,ht=>by
   obtain ⟨g1,g2,g3,g4⟩:=h.ends e (hes e (by simp))
   have hlo:32≤loE e:=by unfold loE; split<;>omega
   have hhi:hiE e≤126:=by unfold hiE; split<;>omega
   have key:tOK N.n (rF N t e)∧∀ p < 512,bg (bn (rF N t e) sign q) p=(bg (bn t sign q) p || (decide (q=e.fr∧loE e≤sign + 32∧sign + 32 < loE e + (hiE e + 1 - loE e)) && bg (be N e.to) p)):=by
    rcases Nat.lt_or_ge (hiE e + 1) (loE e) with hgt | hle
    · have h0:hiE e + 1 - loE e=0:=by omega
      rw [rF,h0]
      refine ⟨ht,fun p hp=>?_⟩
      rw [decide_eq_false (by omega)]
      simp
    · exact A7 (ea h g2) g1 hs _ _ t ht hlo (by omega)
   obtain ⟨f1,f2⟩:=tc h hs es _ (fun e he=>hes e (by simp [he])) key.1
   refine ⟨f1,fun p hp=>?_⟩
   rw [List.foldl_cons,f2 p hp,key.2 p hp,Bool.or_eq_true,Bool.and_eq_true,decide_eq_true_eq,or_assoc]
   refine or_congr_right ?_
   constructor
   · rintro (⟨⟨h1,h2,h3⟩,h4⟩ | ⟨e',h1,h2⟩)
     · exact ⟨e,by simp,h1.symm,by simp [kT]; omega,h4⟩
     · exact ⟨e',by simp [h1],h2⟩
   · rintro ⟨e',h1,h2,h3,h4⟩
     rcases List.mem_cons.1 h1 with rfl | h1
     · simp only [kT,decide_eq_true_eq] at h3
       exact .inl ⟨⟨h2.symm,h3.1,by omega⟩,h4⟩
     · exact .inr ⟨e',h1,h2,h3,h4⟩
theorem DH (n:Nat):tOK n (List.replicate n lO):=⟨by simp,fun r hr=>by
 rw [List.mem_replicate] at hr
 rw [hr.2]
 exact ⟨by rw [lO,List.length_replicate],fun w hw=>by rw [lO,List.mem_replicate] at hw; omega⟩⟩
theorem FO (n sign q:Nat) (hs:sign < 95) {p:Nat} (hp:p < 512):bg (bn (List.replicate n lO) sign q) p=false:=by
 have:bn (List.replicate n lO) sign q=cE:=by
  unfold bn
  split
  · rename_i r hr
    have:=List.mem_of_getElem? hr
    rw [List.mem_replicate] at this
    rw [this.2]
    have e:(lO.drop (8 * sign)).take 8=List.replicate 8 0:=by
     simp only [lO,List.drop_replicate,List.take_replicate]
     congr 1
     omega
    rw [e]; rfl
  · rfl
 rw [this,tI]
theorem mL {N:Net} (h:N.ok):tOK N.n (dL N)∧∀ sign q,sign < 95→∀ p < 512,(bg (bn (dL N) sign q) p=true↔∃ e∈N.edges,e.fr=q∧kT e sign=true∧bg (be N e.to) p=true):=by
 refine ⟨(tc h (sign:=0) (q:=0) (by omega) N.edges _ (fun _ h=>h) (DH N.n)).1,fun sign q hs p hp=>?_⟩
 rw [dL,(tc h hs N.edges _ (fun _ h=>h) (DH N.n)).2 p hp,FO _ _ _ hs hp]
 simp
theorem jN {N:Net} (h:N.ok) {q:Nat} (hq:q < N.n) {p:Nat} (hp:p < 512):bg (be N q) p=true↔NReach N.edges q p:=by
 rw [be,L9 (lB h hq).1 hp,decide_eq_true_eq]
 exact uH (fun e he=>(h.ends e he).2.1) hq
theorem yb {N:Net} (h:N.ok) {q:Nat} (hq:q < N.n) {p:Nat} (hp:p < 512) (hh:bg (be N q) p=true):p < N.n:=
 ((jN h hq hp).1 hh).lt (fun e he=>(h.ends e he).2.1) hq
theorem AW:∀ (es:List NEdge) (b:List Bool),b.length=95→(es.foldl lZ b).length=95∧∀ c < 95,(es.foldl lZ b)[c]?=some false→b[c]?=some false∧∀ e∈es,loE e≤hiE e→loE e≠c + 32∧(hiE e < 126→hiE e + 1≠c + 32)
 | [],b,hb=>⟨hb,fun c hc h=>⟨h,by simp⟩⟩
 | e::es,b,hb=>by
   have hlo:32≤loE e:=by unfold loE; split<;>omega
   have hhi:hiE e≤126:=by unfold hiE; split<;>omega
   have hm:=AX b e
   obtain ⟨g1,g2⟩:=AW es (lZ b e) (by rw [hm,hb])
   refine ⟨g1,fun c hc h=>?_⟩
   obtain ⟨f1,f2⟩:=g2 c hc h
   have set_false:∀ (l:List Bool) (i:Nat),i < l.length→(l.set i true)[c]?=some false→i≠c∧l[c]?=some false:=fun l i hi h=>by
    by_cases hic:i=c
    · subst hic; rw [List.getElem?_set_self hi] at h; cases h
    · rw [List.getElem?_set_ne hic] at h; exact ⟨hic,h⟩
   have key:b[c]?=some false∧(loE e≤hiE e→loE e≠c + 32∧(hiE e < 126→hiE e + 1≠c + 32)):=by
    unfold lZ at f1
    split at f1
    · exact ⟨f1,fun _=>by omega⟩
    · split at f1
      · obtain ⟨h1,h2⟩:=set_false _ _ (by simp; omega) f1
        obtain ⟨h3,h4⟩:=set_false _ _ (by omega) h2
        exact ⟨h4,fun _=>⟨by omega,fun _=>by omega⟩⟩
      · obtain ⟨h3,h4⟩:=set_false _ _ (by omega) f1
        exact ⟨h4,fun _=>⟨by omega,fun _=>by omega⟩⟩
   refine ⟨key.1,fun e' he'=>?_⟩
   rcases List.mem_cons.1 he' with rfl | he'
   · exact key.2
   · exact f2 e' he'
theorem AV:∀ (es:List NEdge) (b:List Bool),b[0]?=some true→(es.foldl lZ b)[0]?=some true
 | [],_,h=>h
 | e::es,b,h=>by
   refine AV es _ ?_
   have set_true:∀ (l:List Bool) (i:Nat),l[0]?=some true→(l.set i true)[0]?=some true:=fun l i h=>by
    rw [List.getElem?_set]
    have:=(List.getElem?_eq_some_iff.1 h).1
    split
    · rename_i h0; subst h0; rw [if_pos this]
    · exact h
   unfold lZ
   split
   · exact h
   · split
     · exact set_true _ _ (set_true _ _ h)
     · exact set_true _ _ h
theorem qp (N:Net):(gE N).length=95∧(gE N)[0]?=some true∧∀ c < 95,(gE N)[c]?=some false→∀ e∈N.edges,loE e≤hiE e→loE e≠c + 32∧(hiE e < 126→hiE e + 1≠c + 32):=by
 obtain ⟨h1,h2⟩:=AW N.edges ((List.replicate 95 false).set 0 true) (by simp)
 exact ⟨h1,AV _ _ (by rfl),fun c hc h=>(h2 c hc h).2⟩
theorem FP {N:Net} (h:N.ok) {c:Nat} (hc:c + 1 < 95) (hb:(gE N)[c + 1]?=some false) (q:Nat):bn (dL N) (c + 1) q=bn (dL N) c q:=by
 obtain ⟨h1,h2⟩:=mL h
 refine Hv (rJ h1 (by omega) q) (rJ h1 (by omega) q) fun p hp=>?_
 rw [Bool.eq_iff_iff,h2 (c + 1) q (by omega) p hp,h2 c q (by omega) p hp]
 have key:∀ e∈N.edges,kT e (c + 1)=kT e c:=fun e he=>by
  have hlo:32≤loE e:=by unfold loE; split<;>omega
  have hhi:hiE e≤126:=by unfold hiE; split<;>omega
  simp only [kT]
  refine decide_eq_decide.2 ?_
  rcases Nat.lt_or_ge (hiE e) (loE e) with hgt | hle
  · omega
  · obtain ⟨g1,g2⟩:=(qp N).2.2 (c + 1) hc hb e he hle
    have:hiE e + 1≠c + 1 + 32:=by
     by_cases h126:hiE e < 126
     · exact g2 h126
     · omega
    omega
 constructor
 · rintro ⟨e,he,h3,h4,h5⟩; exact ⟨e,he,h3,by rw [←key e he]; exact h4,h5⟩
 · rintro ⟨e,he,h3,h4,h5⟩; exact ⟨e,he,h3,by rw [key e he]; exact h4,h5⟩
theorem D3 {f g:Nat→List Nat} (h:∀ q,f q=g q) (i:Nat) (s out:List Nat):m9 f i s out=m9 g i s out:=by
 have:f=g:=funext h
 rw [this]
end Go.Abs
end
section
set_option maxHeartbeats 1000000
set_option maxRecDepth 100000
namespace Go.Abs
open Go.Proofs Go.Aut
attribute [-simp] getElem?_pos Option.not_isSome List.map_map
theorem Al {K:Type} {e:K→K→Bool} {step:K→Nat→K} {most:Nat}:∀ (f i:Nat) (l:List K) (rows:List (List Nat)) (r:List K × List (List Nat)),l.length≤most + 1→bI e step most f i l rows=some r→r.1.length≤most + 1
 | 0,_,_,_,_,_,h=>by simp [bI] at h
 | f + 1,i,l,rows,r,hl,h=>by
   simp only [bI] at h
   split at h
   · cases h; exact hl
   · split at h
     · cases h
     · exact Al f _ _ _ _ (by omega) h
def ofP (N:Net):Option Aut:=match um eqB (cH (dL N)) (be N N.start) 500 with
 | none=>none
 | some (list,rows)=>EL rows (list.map fun s=>bg s N.stop)
theorem Mo {N:Net} (h:N.ok) (hl:N.edges.length≤1000000) {b:Aut} (hb:ofP N=some b):Fn Tryz.prog Ec [.strct (Net.c N)] (.tup [.strct (Aut.c b),.int .i64 0]):=by
 refine Fn.of_imageE mixed Mf L8 rfl fun ho=>?_
 unfold Fd
 simp only [oks,ok,and_true] at ho
 clear ho
 have hle:=h.le
 unfold ofP at hb
 split at hb
 · cases hb
 rename_i list rows hw
 obtain ⟨hT1,hT2⟩:=mL h
 obtain ⟨hB1,hB2,hB3⟩:=qp N
 obtain ⟨t,htd⟩:∃ t,t=dL N:=⟨_,rfl⟩
 obtain ⟨bd,hbd⟩:∃ bd,bd=gE N:=⟨_,rfl⟩
 have hsame:=fun c hc hb q=>FP h (c:=c) hc hb q
 rw [←htd] at hT1 hT2 hw hsame
 rw [←hbd] at hB1 hB2 hB3 hsame
 have htl:=hT1.len
 have htok:stepsOK t:=⟨by omega,hT1.rows⟩
 have hin:∀ q c,c < 95→∀ p < 512,bg (bn t c q) p=true→p < t.length:=fun q c hc p hp hh=>by
  obtain ⟨e,he,_,_,h5⟩:=(hT2 c q hc p hp).1 hh
  have:=yb h (h.ends e he).2.1 hp h5
  omega
 have hD0:dSet t.length (be N N.start):=⟨ea h h.start,fun p hp hh=>by have:=yb h h.start hp hh; omega⟩
 have hbn:∀ c,c + 1 < 95→bd[c + 1]?=some false→∀ s,dSet t.length s→cH t s (c + 1)=cH t s c:=fun c hc hf s _=>D3 (hsame c hc hf) _ _ _
 have hdn:∀ s c,dSet t.length s→c < 95→dSet t.length (cH t s c):=fun s c hs hc=>by
  obtain ⟨g1,g2⟩:=m8 hs.ok fun q _=>htok.set hc q
  refine ⟨g1,fun p hp hh=>?_⟩
  obtain ⟨r,hr,h1,h2⟩:=(g2 p hp).1 hh
  exact hin r c hc p hp h2
 obtain ⟨hw1,hw2,hw3,hw4,hw5,hw6⟩:=ta hdn hD0 hw
 have hwalk:=ET bd hB1 t htok hin hB2 hbn cE rfl 500 (by omega) (be N N.start) hD0 list rows hw
 have hlist:list.length≤501:=Al _ _ _ _ _ (by simp) hw
 obtain ⟨LL,hLL⟩:∃ LL,LL=A5 t list cE list.length:=⟨_,rfl⟩
 rw [←hLL] at hwalk
 have hm:=Bi h hl
 have hst:=Ae h hl
 have hbo:=Ag h hl
 have hcl:=sD h hl h.start
 obtain ⟨hcl1,hcl2⟩:=lB h h.start
 have hso:=uT _ hcl1 hcl2
 rw [show BL (fq N.edges N.n N.start)=be N N.start from rfl] at hso
 rw [←htd] at hst
 rw [←hbd] at hbo
 have hf95:List.drop 95 (List.replicate 95 (V.bool false))=[]:=List.drop_of_length_le (by rw [List.length_replicate]; exact Nat.le_refl _)
 simp at hm hst hbo hcl
 simp (disch:=omega) [-List.reduceReplicate]
 refine ae hm rfl fun _=>?_
 simp (disch:=omega) [-List.reduceReplicate]
 refine aF hst (by simp) ?_
 simp (disch:=omega) [-List.reduceReplicate]
 refine aN hbo (by simp [bY]) ?_
 simp (disch:=omega) [-List.reduceReplicate]
 refine ct ⟨[(1,.ptr 0 0),(2,.ptr 1 0),(4,.ptr 2 0),(5,.ptr 3 0)],[some (.box (Net.c N)),some (.box [.nil 1,.nil 1]),some (.box [bK t]),some (.box (bd.map V.bool))]⟩ (fun F hF=>?_) ?_
 · simp at hF
   refine BC.mk ?_ ?_
   all_goals
    simp (disch:=omega) [-List.reduceReplicate,hB1,hf95]
    exact hF
 simp (disch:=omega) [-List.reduceReplicate]
 refine aj hcl (by simp) fun _=>?_
 simp (disch:=omega) [-List.reduceReplicate]
 refine ae hso (by simp [bY]) fun _=>?_
 simp (disch:=omega) [-List.reduceReplicate,uh]
 refine ah [1] 3 [3,2,4] (by simp) (by simp) (by simp [aP]) (by simp) hwalk (by simp) fun _ _=>?_
 simp (disch:=omega) [-List.reduceReplicate]
 obtain ⟨n,hn⟩:∃ n,n=list.length:=⟨_,rfl⟩
 obtain ⟨fs,hfs⟩:∃ fs,fs=list.map fun s=>bg s N.stop:=⟨_,rfl⟩
 have hfl:fs.length=n:=by simp [hfs,hn]
 rw [←hfs] at hb
 have haok:(Aut.mk rows fs).ok:=by
  obtain ⟨h3,tt,h4⟩:=iP b6 hdn _ _ _ _ _ _ (kQ hD0) hw
  rw [hfs]
  exact (ru (good:=fun s=>bg s N.stop) h3 hw2).1
 have hform:=GZ haok (by simp only [Aut.n]; omega) hb
 simp at hform
 rw [←hn] at hlist hw1 ⊢
 refine ak (fun k:Nat=>⟨[(1,.ptr 0 0),(2,.ptr 1 0),(9,.ref 2 n),(11,.ref 3 n),(41,.ref 4 n),(42,.int .i64 n),(43,nV k)],[some (.box (Net.c N)),some (.box [.nil 1,.nil 1]),some (.arr aD 1 (rows.map bL)),some (.arr bw 1 (fh V.bool false n (fs.take k))),some (.arr bm 8 (list.map aP))]⟩)
  (fun k=>k≤n) (fun k=>n - k) [] _ 0 rfl (by simp [-List.reduceReplicate,←tQ,hw1]) (by simp) ?_
 intro k hk M hM
 rcases Nat.lt_or_ge k n with hlt | hge
 · obtain ⟨q,hq⟩:=ap (l:=list) (k:=k) (by omega)
   have hqd:=hw4 q (List.mem_of_getElem? hq)
   have hql:=hqd.ok.len
   have hx:fs[k]?=some (bg q N.stop):=by simp [hfs,hq]
   have hak:(fs.take k).length=k:=by simp; omega
   have hfl:=tR (f:=V.bool) (d:=false) (n:=n) (acc:=fs.take k) (by omega)
   have hg:=tS (f:=V.bool) (d:=false) (n:=n) (acc:=fs.take k) (by omega)
   have hs:=tP (f:=V.bool) (d:=false) (n:=n) (acc:=fs.take k) (by omega) (bg q N.stop)
   rw [hak] at hg hs
   rw [←aS hx] at hs
   have hhas:=JI q hqd.ok N.stop (by have:=h.stop; omega)
   have h8q:List.take 8 (q.map az)=q.map az:=List.take_of_length_le (by simp; omega)
   have hz:cE.length=8:=rfl
   have hzd:List.drop 8 (cE.map az)=[]:=rfl
   simp at hhas
   simp (disch:=omega) [-List.reduceReplicate,hq,hn.symm,aP,hql,h8q,uh,hz,hzd]
   refine ae hhas rfl fun _=>?_
   simp (disch:=omega) [-List.reduceReplicate,hfl,hg,hs]
   exact hM.out _<|Nx.mk (k + 1) (by simp) (by omega) (by omega)
 · have:k=n:=by omega
   subst this
   have hff:fh V.bool false k (fs.take k)=fs.map V.bool:=by rw [List.take_of_length_le (by omega)]; exact rb hfl
   simp (disch:=omega) [-List.reduceReplicate,hff,hw1,hfl]
   refine wa hform fun _=>?_
   simp (disch:=omega) [-List.reduceReplicate,Aut.c]
end Go.Abs
end
section
set_option maxRecDepth 100000
namespace Go.Abs
open Go.Proofs
def lkD:List (Nat × FD)→Nat→Option FD
 | [],_=>none
 | (k,D)::l,f=>if k=f then some D else lkD l f
theorem Cg {f:Nat} {D:FD}:∀ {l:List (Nat × FD)},lkD l f=some D→(f,D)∈l
 | [],h=>by simp [lkD] at h
 | (k,E)::l,h=>by
   simp only [lkD] at h
   split at h
   · rename_i he; subst he; cases h; simp
   · exact List.mem_cons_of_mem _ (Cg h)
theorem eN (c:UInt8):∀ s:Str,Lib.indexByte s c < (s.length:Int) + 1∧(0≤Lib.indexByte s c→Lib.indexByte s c < s.length)
 | []=>by simp [Lib.indexByte]
 | b::l=>by
   have:=eN c l
   unfold Lib.indexByte
   simp only [List.length_cons]
   split
   · omega
   · split
     · omega
     · omega
theorem dK (s:Str) (c:UInt8):Fn Tryz.prog a6 [.str s,.int .u8 c.toNat] (.int .i64 (Lib.indexByte s c)):=by
 refine Fn.ext bT (by kernel_rfl) (by kernel_rfl) (by kernel_rfl) (e:=Extern.BytealgIndexByte.indexByte) (by kernel_rfl) ?_
 intro M w cs hM hus
 obtain ⟨cl⟩:=cs
 simp only [aa] at hus
 obtain ⟨_,_,rfl,⟨bs,rfl,rfl,_⟩,_,_,rfl,⟨rfl,_⟩,rfl⟩:=hus
 refine ⟨_,Lib.run_indexByteString bs (c.toNat:Int) w,?_⟩
 have hc:((c.toNat:Int)).toNat.toUInt8=c:=by simp
 rw [hc]
 simp only [rep]
 have h1:=Lib.indexByte_ge bs.data.toList c
 have h2:=eN c bs.data.toList
 refine ⟨trivial,?_,?_⟩
 · simp; omega
 · simp; omega
def KX:List (Nat × FD):=[
 (nd,⟨jl,[.t 2],1,[]⟩),
 (uD,⟨n5,[.t 2],1,[]⟩),
 (yD,⟨p6,[.c 0 95 true],0,[]⟩),
 (nb,⟨ji,[.c 2 95 true],1,[]⟩),
 (rZ,⟨jP,[.c 2 95 true],1,[]⟩),
 (nc,⟨jj,[.t 2],1,[]⟩),
 (pc,⟨gZ,[.t 4],2,[]⟩),
 (eF,⟨b9,[.t 4],2,[]⟩)]
def KZ:List (Nat × FD):=[
 (av,⟨p7,[.t 2,.t 3],1,[]⟩),
 (d7,⟨eb,[.c 2 4 true],1,[]⟩),
 (pI,⟨j3,[.t 2],1,[]⟩),
 (iX,⟨dy,[.t 2,.t 3],1,[0]⟩),
 (lf,⟨fv,[.t 2,.t 3],1,[0]⟩),
 (qF,⟨jp,[.t 4],2,[0]⟩),
 (ng,⟨gC,[.t 2,.t 3],1,[0]⟩),
 (nf,⟨gz,[.t 4,.t 5],2,[0]⟩),
 (my,⟨fx,[.t 2,.t 3],1,[0]⟩),
 (dO,⟨cr,[],4,[0]⟩),
 (gg,⟨dz,[.t 2],1,[0]⟩),
 (gU,⟨dU,[],3,[0]⟩),
 (lS,⟨gO,[],4,[1]⟩),
 (lU,⟨gQ,[],4,[1]⟩),
 (lV,⟨gR,[],4,[1]⟩),
 (lT,⟨gP,[],4,[1]⟩),
 (ko,⟨fM,[.t 4],2,[0]⟩)]
def PK (f:FuncId) (us:List V):Option V:=if f=a6 then (match us with
 | [.str s,.int .u8 n]=>if (UInt8.ofNat n.toNat).toNat=n then some (.int .i64 (Lib.indexByte s (UInt8.ofNat n.toNat))) else none
 | _=>none) else none
def wi:FTab:=⟨lkD KX,lkD KZ,PK⟩
theorem KW:∀ x∈KX,Img Tryz.prog x.1 x.2∧x.2.ps=[]:=by
 intro x hx
 simp only [KX,List.mem_cons,List.not_mem_nil,or_false] at hx
 rcases hx with rfl | rfl | rfl | rfl | rfl | rfl | rfl | rfl
 · exact ⟨Img.of_image nD nr,rfl⟩
 · exact ⟨Img.of_image uN uM,rfl⟩
 · exact ⟨Img.of_image zw y5,rfl⟩
 · exact ⟨Img.of_image nB np,rfl⟩
 · exact ⟨Img.of_image sj sg,rfl⟩
 · exact ⟨Img.of_image nC nq,rfl⟩
 · exact ⟨Img.of_image pr pi,rfl⟩
 · exact ⟨Img.of_image e9 eT,rfl⟩
theorem KY:∀ x∈KZ,Img Tryz.prog x.1 x.2:=by
 intro x hx
 simp only [KZ,List.mem_cons,List.not_mem_nil,or_false] at hx
 rcases hx with rfl | rfl | rfl | rfl | rfl | rfl | rfl | rfl | rfl | rfl | rfl | rfl | rfl | rfl | rfl | rfl | rfl
 · exact Img.of_imageE zx y6
 · exact Img.of_imageE ja i7
 · exact Img.of_image pM pL
 · exact Img.of_imageE i9 i6
 · exact Img.of_imageE lm ll
 · exact Img.of_imageE qU qO
 · exact Img.of_imageE nF nu
 · exact Img.of_imageE nE ns
 · exact Img.of_imageE mA mz
 · exact Img.of_imageE dR dQ
 · exact Img.of_imageE gr gp
 · exact Img.of_imageE gW gV
 · exact Img.of_imageE l9 l4
 · exact Img.of_imageE mc l6
 · exact Img.of_imageE md l7
 · exact Img.of_imageE ma l5
 · exact Img.of_imageE kB kA
theorem ij:TabOK Tryz.prog wi:=by
 refine ⟨fun f D h=>KW _ (Cg h),fun f D h=>KY _ (Cg h),fun f us r h=>?_⟩
 simp only [wi,PK] at h
 split at h
 · rename_i hf
   subst hf
   split at h
   · split at h
     · rename_i s n hn
       cases h
       have:=dK s (UInt8.ofNat n.toNat)
       rwa [hn] at this
     · cases h
   · cases h
 · cases h
end Go.Abs
end
