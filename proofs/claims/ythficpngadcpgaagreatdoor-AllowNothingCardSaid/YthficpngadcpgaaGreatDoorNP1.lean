/-
  Plain: the texts that are right: the document's answer and the program's. No program in sight. No condition.
  What the program's functions for texts, patterns, rules and places answer. No condition.
-/
import Derived.Test.YthficpngadcpgaaGreatDoorNF1
import Derived.Lib.MapLaws
import Derived.Lib.TrimUEq
import Derived.Lib.ValidU
import Derived.Test.YthficpngadcpgaaGreatDoorNW0
import Derived.Lib.IndexMore
set_option linter.unusedVariables false
set_option linter.unusedSimpArgs false
set_option linter.unusedSectionVars false
section
set_option maxHeartbeats 4000000
set_option maxRecDepth 100000
namespace Go.Abs.F
open Go.Proofs
theorem bT (c:UInt8):follows c=true↔c.toNat / 64=2:=by
 have:=c.toNat_lt
 simp [follows]; omega
theorem cq {c:UInt8} (h:¬c.toNat / 64=2):follows c=false:=by
 cases h':follows c with
 | false=>rfl
 | true=>exact (h ((bT c).1 h')).elim
theorem dN2 {n b0 b1 b2 b3:Nat} (h:192≤b0∧b0 < 224) (hn:1 < n) (h1:b1 / 64=2):Lib.decodeN n b0 b1 b2 b3=if b0 % 32 * 64 + b1 % 64 ≥ 128 then (b0 % 32 * 64 + b1 % 64,2) else (65533,1):=by
 unfold Lib.decodeN
 rw [if_neg (show ¬b0 < 128 by omega),if_pos (show b0 / 32=6∧(1 < n∧b1 / 64=2) from ⟨by omega,hn,h1⟩)]
theorem dN2n {n b0 b1 b2 b3:Nat} (h:192≤b0∧b0 < 224) (hn:¬(1 < n∧b1 / 64=2)):Lib.decodeN n b0 b1 b2 b3=(65533,1):=by
 unfold Lib.decodeN
 rw [if_neg (show ¬b0 < 128 by omega),if_neg (show ¬(b0 / 32=6∧(1 < n∧b1 / 64=2)) from fun h=>hn h.2),if_neg (by omega),if_neg (by omega)]
theorem dN3 {n b0 b1 b2 b3:Nat} (h:224≤b0∧b0 < 240) (hn:2 < n) (h1:b1 / 64=2) (h2:b2 / 64=2):Lib.decodeN n b0 b1 b2 b3=if b0 % 16 * 4096 + b1 % 64 * 64 + b2 % 64 ≥ 2048∧(b0 % 16 * 4096 + b1 % 64 * 64 + b2 % 64 < 55296∨(57344≤b0 % 16 * 4096 + b1 % 64 * 64 + b2 % 64∧b0 % 16 * 4096 + b1 % 64 * 64 + b2 % 64≤1114111)) then (b0 % 16 * 4096 + b1 % 64 * 64 + b2 % 64,3) else (65533,1):=by
 unfold Lib.decodeN
 rw [if_neg (show ¬b0 < 128 by omega),if_neg (show ¬(b0 / 32=6∧(1 < n∧b1 / 64=2)) by omega),if_pos (show b0 / 16=14∧(1 < n∧b1 / 64=2)∧(2 < n∧b2 / 64=2) from ⟨by omega,⟨by omega,h1⟩,hn,h2⟩)]
theorem Bh {n b0 b1 b2 b3:Nat} (h:224≤b0∧b0 < 240) (hn:¬(2 < n∧b1 / 64=2∧b2 / 64=2)):Lib.decodeN n b0 b1 b2 b3=(65533,1):=by
 unfold Lib.decodeN
 rw [if_neg (show ¬b0 < 128 by omega),if_neg (show ¬(b0 / 32=6∧(1 < n∧b1 / 64=2)) by omega),if_neg (show ¬(b0 / 16=14∧(1 < n∧b1 / 64=2)∧(2 < n∧b2 / 64=2)) from fun h=>hn ⟨h.2.2.1,h.2.1.2,h.2.2.2⟩),if_neg (by omega)]
theorem dN4 {n b0 b1 b2 b3:Nat} (h:240≤b0∧b0 < 248) (hn:3 < n) (h1:b1 / 64=2) (h2:b2 / 64=2) (h3:b3 / 64=2):Lib.decodeN n b0 b1 b2 b3=if b0 % 8 * 262144 + b1 % 64 * 4096 + b2 % 64 * 64 + b3 % 64 ≥ 65536∧(b0 % 8 * 262144 + b1 % 64 * 4096 + b2 % 64 * 64 + b3 % 64 < 55296∨(57344≤b0 % 8 * 262144 + b1 % 64 * 4096 + b2 % 64 * 64 + b3 % 64∧b0 % 8 * 262144 + b1 % 64 * 4096 + b2 % 64 * 64 + b3 % 64≤1114111)) then (b0 % 8 * 262144 + b1 % 64 * 4096 + b2 % 64 * 64 + b3 % 64,4) else (65533,1):=by
 unfold Lib.decodeN
 rw [if_neg (show ¬b0 < 128 by omega),if_neg (show ¬(b0 / 32=6∧(1 < n∧b1 / 64=2)) by omega),if_neg (show ¬(b0 / 16=14∧(1 < n∧b1 / 64=2)∧(2 < n∧b2 / 64=2)) by omega),
  if_pos (show b0 / 8=30∧(1 < n∧b1 / 64=2)∧(2 < n∧b2 / 64=2)∧(3 < n∧b3 / 64=2) from ⟨by omega,⟨by omega,h1⟩,⟨by omega,h2⟩,hn,h3⟩)]
theorem wI {n b0 b1 b2 b3:Nat} (h:240≤b0∧b0 < 248) (hn:¬(3 < n∧b1 / 64=2∧b2 / 64=2∧b3 / 64=2)):Lib.decodeN n b0 b1 b2 b3=(65533,1):=by
 unfold Lib.decodeN
 rw [if_neg (show ¬b0 < 128 by omega),if_neg (show ¬(b0 / 32=6∧(1 < n∧b1 / 64=2)) by omega),if_neg (show ¬(b0 / 16=14∧(1 < n∧b1 / 64=2)∧(2 < n∧b2 / 64=2)) by omega),
  if_neg (show ¬(b0 / 8=30∧(1 < n∧b1 / 64=2)∧(2 < n∧b2 / 64=2)∧(3 < n∧b3 / 64=2)) from fun h=>hn ⟨h.2.2.2.1,h.2.1.2,h.2.2.1.2,h.2.2.2.2⟩)]
theorem dN0 {n b0 b1 b2 b3:Nat} (h:128≤b0) (h2:¬(192≤b0∧b0 < 224)) (h3:¬(224≤b0∧b0 < 240)) (h4:¬(240≤b0∧b0 < 248)):Lib.decodeN n b0 b1 b2 b3=(65533,1):=by
 unfold Lib.decodeN
 rw [if_neg (show ¬b0 < 128 by omega),if_neg (by omega),if_neg (by omega),if_neg (by omega)]
theorem lr (b:UInt8) (t:Str):one (b::t)=Lib.decodeL (b::t):=by
 have hb:=b.toNat_lt
 rw [Lib.decodeL_N]
 simp only [one,List.getD_cons_zero,List.getD_cons_succ,List.length_cons]
 by_cases h1:b.toNat < 128
 · simp [Lib.decodeN,h1]
 rw [if_neg h1]
 by_cases h2:192≤b.toNat∧b.toNat < 224
 · have e:hdr b.toNat=(2,b.toNat - 192,128):=by simp [hdr,h2]
   rw [e]
   cases t with
   | nil=>rw [dN2n h2 (by simp)]; simp
   | cons c u=>
     have hc:=c.toNat_lt
     simp only [List.getD_cons_zero,List.getD_cons_succ,List.length_cons,List.take_succ_cons,List.take_zero,goV,Nat.reduceSub]
     rw [if_neg (show ¬(2=0∨u.length + 1 + 1 < 2) by omega)]
     by_cases f1:c.toNat / 64=2
     · rw [if_pos ((bT c).2 f1),dN2 h2 (by omega) f1]
       have ev:64 * (b.toNat - 192) + c.toNat - 128=b.toNat % 32 * 64 + c.toNat % 64:=by omega
       rw [ev]
       simp only [lX]
       repeat' split
       all_goals first | rfl | omega
     · rw [cq f1,dN2n h2 (by omega)]
       rfl
 by_cases h3:224≤b.toNat∧b.toNat < 240
 · have e:hdr b.toNat=(3,b.toNat - 224,2048):=by unfold hdr; rw [if_neg h2,if_pos h3]
   rw [e]
   match t with
   | []=>rw [Bh h3 (by simp)]; simp
   | [c]=>rw [Bh h3 (by simp)]; simp
   | c::d::u=>
     have hc:=c.toNat_lt
     have hd:=d.toNat_lt
     simp only [List.getD_cons_zero,List.getD_cons_succ,List.length_cons,List.take_succ_cons,List.take_zero,goV,Nat.reduceSub]
     rw [if_neg (show ¬(3=0∨u.length + 1 + 1 + 1 < 3) by omega)]
     by_cases f1:c.toNat / 64=2
     · rw [if_pos ((bT c).2 f1)]
       by_cases f2:d.toNat / 64=2
       · rw [if_pos ((bT d).2 f2),dN3 h3 (by omega) f1 f2]
         have ev:64 * (64 * (b.toNat - 224) + c.toNat - 128) + d.toNat - 128=b.toNat % 16 * 4096 + c.toNat % 64 * 64 + d.toNat % 64:=by omega
         rw [ev]
         simp only [lX]
         repeat' split
         all_goals first | rfl | omega
       · rw [cq f2,Bh h3 (by omega)]
         rfl
     · rw [cq f1,Bh h3 (by omega)]
       rfl
 by_cases h4:240≤b.toNat∧b.toNat < 248
 · have e:hdr b.toNat=(4,b.toNat - 240,65536):=by unfold hdr; rw [if_neg h2,if_neg h3,if_pos h4]
   rw [e]
   match t with
   | []=>rw [wI h4 (by simp)]; simp
   | [c]=>rw [wI h4 (by simp)]; simp
   | [c,d]=>rw [wI h4 (by simp)]; simp
   | c::d::k::u=>
     have hc:=c.toNat_lt
     have hd:=d.toNat_lt
     have hk:=k.toNat_lt
     simp only [List.getD_cons_zero,List.getD_cons_succ,List.length_cons,List.take_succ_cons,List.take_zero,goV,Nat.reduceSub]
     rw [if_neg (show ¬(4=0∨u.length + 1 + 1 + 1 + 1 < 4) by omega)]
     by_cases f1:c.toNat / 64=2
     · rw [if_pos ((bT c).2 f1)]
       by_cases f2:d.toNat / 64=2
       · rw [if_pos ((bT d).2 f2)]
         by_cases f3:k.toNat / 64=2
         · rw [if_pos ((bT k).2 f3),dN4 h4 (by omega) f1 f2 f3]
           have ev:64 * (64 * (64 * (b.toNat - 240) + c.toNat - 128) + d.toNat - 128) + k.toNat - 128=b.toNat % 8 * 262144 + c.toNat % 64 * 4096 + d.toNat % 64 * 64 + k.toNat % 64:=by omega
           rw [ev]
           simp only [lX]
           repeat' split
           all_goals first | rfl | omega
         · rw [cq f3,wI h4 (by omega)]
           rfl
       · rw [cq f2,wI h4 (by omega)]
         rfl
     · rw [cq f1,wI h4 (by omega)]
       rfl
 have e:hdr b.toNat=(0,0,0):=by unfold hdr; rw [if_neg h2,if_neg h3,if_neg h4]
 rw [e,if_pos (.inl rfl),dN0 (by omega) h2 h3 h4]
theorem uH (r:Nat):cF r=Lib.encodeRune (r:Int):=by
 have g:∀ (n:Nat) (z:Int),z=(n:Int)→z.toNat.toUInt8=b8 n:=by
  intro n z h; subst h; rfl
 unfold cF Lib.encodeRune Lib.encodeRuneZ
 simp only
 by_cases h0:1114111 < r∨(55296≤r∧r≤57343)
 · rw [if_pos h0,if_neg (show ¬(0≤(r:Int)∧(r:Int)≤127) by omega),if_neg (show ¬(128≤(r:Int)∧(r:Int)≤2047) by omega),
    if_neg (show ¬((2048≤(r:Int)∧(r:Int) < 55296)∨(57343 < (r:Int)∧(r:Int)≤65535)) by omega),if_neg (show ¬(65536≤(r:Int)∧(r:Int)≤1114111) by omega)]
   decide
 · rw [if_neg h0]
   by_cases h1:r < 128
   · rw [if_pos h1,if_pos (by omega)]
     simp only [List.map_cons,List.map_nil]
     rw [g r _ rfl]
   · rw [if_neg h1,if_neg (by omega:¬(0≤(r:Int)∧(r:Int)≤127))]
     by_cases h2:r < 2048
     · rw [if_pos h2,if_pos (by omega)]
       simp only [List.map_cons,List.map_nil]
       rw [g (192 + r / 64) _ (by omega),g (128 + r % 64) _ (by omega)]
     · rw [if_neg h2,if_neg (by omega:¬(128≤(r:Int)∧(r:Int)≤2047))]
       by_cases h3:r < 65536
       · rw [if_pos h3,if_pos (by omega)]
         simp only [List.map_cons,List.map_nil]
         rw [g (224 + r / 4096) _ (by omega),g (128 + r / 64 % 64) _ (by omega),g (128 + r % 64) _ (by omega)]
       · rw [if_neg h3,if_neg (by omega),if_pos (by omega)]
         simp only [List.map_cons,List.map_nil]
         rw [g (240 + r / 262144) _ (by omega),g (128 + r / 4096 % 64) _ (by omega),g (128 + r / 64 % 64) _ (by omega),g (128 + r % 64) _ (by omega)]
theorem bX:∀ n,Lib.validGoD n []=true
 | 0=>rfl
 | _ + 1=>by simp [Lib.validGoD]
theorem gZ:∀ (n m:Nat) (l:Str),l.length≤n→l.length≤m→Lib.validGoD n l=Lib.validGoD m l
 | 0,m,l,hn,_=>by
   have:l=[]:=List.eq_nil_of_length_eq_zero (by omega)
   subst this
   rw [bX,bX]
 | n + 1,0,l,_,hm=>by
   have:l=[]:=List.eq_nil_of_length_eq_zero (by omega)
   subst this
   rw [bX,bX]
 | n + 1,m + 1,l,hn,hm=>by
   by_cases hne:l=[]
   · subst hne
     rw [bX,bX]
   · have hw:=Lib.decodeL_width l
     have hl:0 < l.length:=List.length_pos_iff.2 hne
     simp only [Lib.validGoD,if_neg hne]
     rw [gZ n m _ (by rw [List.length_drop]; omega) (by rw [List.length_drop]; omega)]
theorem ru (b:UInt8) (t:Str):Lib.validD (b::t)=if (one (b::t)).1=65533∧(one (b::t)).2=1 then false else Lib.validD ((b::t).drop (one (b::t)).2):=by
 rw [lr]
 unfold Lib.validD
 simp only [List.length_cons,Lib.validGoD,List.cons_ne_nil,if_false]
 have hw:=Lib.decodeL_width (b::t)
 rw [gZ t.length _ _ (by rw [List.length_drop]; simp; omega) (Nat.le_refl _)]
def isU (s:Str):Bool:=Lib.validD s && (bC s).all fun r=>!decide (r=0) && !decide (r=13)
theorem oZ {b:UInt8} {t:Str} (h:(one (b::t)).1 < 128):b.toNat=(one (b::t)).1:=by
 simp only [one] at h ⊢
 by_cases h1:b.toNat < 128
 · rw [if_pos h1]
 · rw [if_neg h1] at h
   exfalso
   by_cases h2:(hdr b.toNat).1=0∨t.length + 1 < (hdr b.toNat).1
   · rw [if_pos h2] at h; simp at h
   · rw [if_neg h2] at h
     have h3:128≤(hdr b.toNat).2.2:=by
      have h2':¬(hdr b.toNat).1=0:=fun h=>h2 (.inl h)
      revert h2'
      unfold hdr
      repeat' split
      all_goals simp
     revert h
     unfold lX
     split
     · simp
     · split
       · simp
       · rename_i h4
         simp only
         omega
theorem rC:∀ (n:Nat) (s:Str) (p:Option Nat),s.length≤n→p≠some 13→(dR (ee p (bC s))=s↔isU s=true)
 | n,[],p,_,_=>by simp [bC,cK,ee,dR,isU,Lib.validD,Lib.validGoD]
 | 0,b::t,p,h,_=>by simp at h
 | n + 1,b::t,p,h,hp=>by
   have hor:=cL (b::t)
   have hlen:=hor.2.2.1 (by simp)
   have hd:((b::t).drop (one (b::t)).2).length≤n:=by rw [List.length_drop]; simp at h ⊢; omega
   rw [cJ]
   simp only [ee,isU,cJ,List.all_cons,ru]
   rw [if_neg (fun h=>hp h.2)]
   simp only [dR,List.map_append,List.map_cons,List.map_nil,List.flatten_append,List.flatten_cons,List.flatten_nil,List.append_nil]
   by_cases h13:(one (b::t)).1=13
   · have hb:=oZ (b:=b) (t:=t) (by omega)
     rw [if_pos h13]
     have e10:cF 10=[10]:=by decide
     rw [h13] at hb
     rw [e10,h13]
     simp
     intro hh
     rw [←hh] at hb
     simp at hb
   · by_cases h00:(one (b::t)).1=0
     · have hb:=oZ (b:=b) (t:=t) (by omega)
       rw [if_neg h13,if_pos h00]
       have e:cF 65533=[239,191,189]:=by decide
       rw [h00] at hb
       rw [e,h00]
       simp
       intro hh
       rw [←hh] at hb
       simp at hb
     · rw [if_neg h13,if_neg h00]
       by_cases hbad:(one (b::t)).1=65533∧(one (b::t)).2=1
       · rw [if_pos hbad]
         have e:cF 65533=[239,191,189]:=by decide
         rw [hbad.1,e]
         simp only [Bool.false_and,Bool.false_eq_true,iff_false]
         intro hh
         have:one (b::t)=(65533,3):=by
          rw [←hh,List.cons_append,List.cons_append,List.cons_append,one]
          simp [hdr,goV,follows,lX]
         rw [this] at hbad
         simp at hbad
       · rw [if_neg hbad]
         have hbad':¬((Lib.decodeL (b::t)).1=65533∧(Lib.decodeL (b::t)).2=1):=by rw [←lr]; exact hbad
         have henc:=Lib.encode_decode (b::t) (by simp) hbad'
         rw [←lr,←uH] at henc
         rw [henc]
         have ih:=rC n ((b::t).drop (one (b::t)).2) (some (one (b::t)).1) hd (by simpa using h13)
         simp only [dR,isU] at ih
         have key:(List.take (one (b::t)).2 (b::t)++(List.map cF (ee (some (one (b::t)).1) (bC (List.drop (one (b::t)).2 (b::t))))).flatten=b::t)↔((List.map cF (ee (some (one (b::t)).1) (bC (List.drop (one (b::t)).2 (b::t))))).flatten=List.drop (one (b::t)).2 (b::t)):=by
          constructor
          · intro hh
            have h2:=hh.trans (List.take_append_drop (one (b::t)).2 (b::t)).symm
            exact List.append_cancel_left h2
          · intro hh
            rw [hh]
            exact List.take_append_drop _ _
         rw [key,ih]
         simp [h13,h00]
theorem vP (s:Str):lN s=isU s:=by
 have:=rC s.length s none (Nat.le_refl _) (by simp)
 unfold lN bL
 rw [Bool.eq_iff_iff,decide_eq_true_iff]
 exact this
theorem yS (s:Str) (p:Nat) (h:p < s.length):jt s p=one (s.drop p):=by
 have:jt s p=Lib.decodeL (s.drop p):=by
  have:=Lib.decodeL_drop ⟨s.toArray⟩ p
  simpa [jt] using this.symm
 rw [this]
 cases hs:s.drop p with
 | nil=>have:=congrArg List.length hs; simp at this; omega
 | cons b t=>rw [lr]
end Go.Abs.F
end
section
set_option maxHeartbeats 4000000
set_option maxRecDepth 100000
namespace Go.Abs.F
open Go.Proofs
attribute [-simp] getElem?_pos Option.not_isSome List.map_map
theorem fI (s t:Str) (hs:s.length < 4294967281):Fn Tryz.prog kK [.str s,.str t] (.int .i64 (Lib.index s t)):=by
 refine Fn.of_image mixed kW kQ rfl fun ho=>?_
 unfold fK
 simp only [oks,ok,and_true] at ho
 clear ho
 simp (disch:=omega) [-List.reduceReplicate]
 refine ae (gY s t hs) rfl fun _=>?_
 simp (disch:=omega) [-List.reduceReplicate]
theorem iV (s t:Str) (hs:s.length < 4294967281):Fn Tryz.prog iH [.str s,.str t] (.bool (decide (0≤Lib.index s t))):=by
 refine Fn.of_image mixed iO iM rfl fun ho=>?_
 unfold dN
 simp only [oks,ok,and_true] at ho
 clear ho
 simp (disch:=omega) [-List.reduceReplicate]
 refine ae (fI s t hs) rfl fun _=>?_
 simp (disch:=omega) [-List.reduceReplicate]
def ji (p:Policy) (par:Str) (n:Node):Bool:=
 if par=[] then (if n.kind=2 then bk p.top fG else if n.kind=3 then bk p.top cC else decide (n.kind=1) && ((bq p.elements n.name).isSome && bk p.top n.name))
 else match bq p.elements par with
  | none=>false
  | some e=>if n.kind=2 then bk e.kids fG else if n.kind=3 then bk e.kids cC else decide (n.kind=1) && ((bq p.elements n.name).isSome && bk e.kids n.name)
theorem lc (p:Policy) (par:Str) (n:Node):Fn Tryz.prog kN [p.v,.str par,n.v] (.bool (ji p par n)):=by
 refine Fn.of_image mixed kZ kT rfl fun ho=>?_
 unfold fN
 simp only [oks,ok,and_true] at ho
 clear ho
 simp (disch:=omega) [-List.reduceReplicate,ji]
 refine BrKd.mk (fun h=>?_) (fun h=>?_)
 · simp (disch:=omega) [-List.reduceReplicate,h]
   repeat' (first
    | (refine BrKd.mk (fun h=>?_) (fun h=>?_)<;>simp (disch:=omega) [*])
    | (refine BrK.mk (fun h=>?_) (fun h=>?_)<;>simp (disch:=omega) [*])
    | (refine aS (cN p n.name) (by simp) (fun _=>?_)<;>simp (disch:=omega) [*])
    | (refine ae (aQ p.top _) rfl (fun _=>?_)<;>simp (disch:=omega) [fG,cC, *]))
 · simp (disch:=omega) [-List.reduceReplicate,h]
   refine aS (cN p par) (by simp) fun _=>?_
   cases hf:bq p.elements par with
   | none=>
     simp (disch:=omega) [-List.reduceReplicate,hf]
   | some e=>
     simp (disch:=omega) [-List.reduceReplicate,hf]
     repeat' (first
      | (refine BrKd.mk (fun h=>?_) (fun h=>?_)<;>simp (disch:=omega) [*])
      | (refine BrK.mk (fun h=>?_) (fun h=>?_)<;>simp (disch:=omega) [*])
      | (refine aS (cN p n.name) (by simp) (fun _=>?_)<;>simp (disch:=omega) [*])
      | (refine ae (aQ e.kids _) rfl (fun _=>?_)<;>simp (disch:=omega) [fG,cC, *]))
def dp (p:Policy) (k:Int) (par:Str) (n:Node):Bool:=if (k=0∧par=[])∨(k=1∧par≠[]) then ji p par n else false
theorem mN (p:Policy) (k:Int) (par:Str) (n:Node):Fn Tryz.prog ma [p.v,.strct [.int .i64 k,.str par],n.v] (.bool (dp p k par n)):=by
 refine Fn.of_image mixed mB mr rfl fun ho=>?_
 unfold gD
 simp only [oks,ok,and_true] at ho
 clear ho
 by_cases h0:k=0<;>by_cases hp:par=[]<;>by_cases h1:k=1
 all_goals first
  | omega
  | (simp (disch:=omega) [-List.reduceReplicate,dp,aI,cu,aL,kOf,aw,cl,eqK,jr,eqC,h0,hp,h1]; done)
  | (simp (disch:=omega) [-List.reduceReplicate,dp,aI,cu,aL,kOf,aw,cl,eqK,jr,eqC,h0,hp,h1]
     refine ae (by simpa using lc p _ n) rfl fun _=>?_
     simp (disch:=omega) [-List.reduceReplicate,h0,hp,h1]; done)
end Go.Abs.F
end
