/-
  Plain: the texts that are right: the document's answer and the program's. No program in sight. No condition.
  What the program's functions for texts, patterns, rules and places answer. No condition.
-/
import Derived.Test.YthficpngadcpgaaGreatDoorPF1
import Derived.Lib.MapLaws
import Derived.Lib.TrimUEq
import Derived.Lib.ValidU
import Derived.Test.YthficpngadcpgaaGreatDoorPW0
import Derived.Lib.IndexMore
set_option linter.unusedVariables false
set_option linter.unusedSimpArgs false
set_option linter.unusedSectionVars false
section
set_option maxHeartbeats 4000000
set_option maxRecDepth 100000
namespace Go.Abs.F
open Go.Proofs
theorem cX (c:UInt8):follows c=true↔c.toNat / 64=2:=by
 have:=c.toNat_lt
 simp [follows]; omega
theorem dR {c:UInt8} (h:¬c.toNat / 64=2):follows c=false:=by
 cases h':follows c with
 | false=>rfl
 | true=>exact (h ((cX c).1 h')).elim
theorem dN2 {n b0 b1 b2 b3:Nat} (h:192≤b0∧b0 < 224) (hn:1 < n) (h1:b1 / 64=2):Lib.decodeN n b0 b1 b2 b3=if b0 % 32 * 64 + b1 % 64 ≥ 128 then (b0 % 32 * 64 + b1 % 64,2) else (65533,1):=by
 unfold Lib.decodeN
 rw [if_neg (show ¬b0 < 128 by omega),if_pos (show b0 / 32=6∧(1 < n∧b1 / 64=2) from ⟨by omega,hn,h1⟩)]
theorem dN2n {n b0 b1 b2 b3:Nat} (h:192≤b0∧b0 < 224) (hn:¬(1 < n∧b1 / 64=2)):Lib.decodeN n b0 b1 b2 b3=(65533,1):=by
 unfold Lib.decodeN
 rw [if_neg (show ¬b0 < 128 by omega),if_neg (show ¬(b0 / 32=6∧(1 < n∧b1 / 64=2)) from fun h=>hn h.2),if_neg (by omega),if_neg (by omega)]
theorem dN3 {n b0 b1 b2 b3:Nat} (h:224≤b0∧b0 < 240) (hn:2 < n) (h1:b1 / 64=2) (h2:b2 / 64=2):Lib.decodeN n b0 b1 b2 b3=if b0 % 16 * 4096 + b1 % 64 * 64 + b2 % 64 ≥ 2048∧(b0 % 16 * 4096 + b1 % 64 * 64 + b2 % 64 < 55296∨(57344≤b0 % 16 * 4096 + b1 % 64 * 64 + b2 % 64∧b0 % 16 * 4096 + b1 % 64 * 64 + b2 % 64≤1114111)) then (b0 % 16 * 4096 + b1 % 64 * 64 + b2 % 64,3) else (65533,1):=by
 unfold Lib.decodeN
 rw [if_neg (show ¬b0 < 128 by omega),if_neg (show ¬(b0 / 32=6∧(1 < n∧b1 / 64=2)) by omega),if_pos (show b0 / 16=14∧(1 < n∧b1 / 64=2)∧(2 < n∧b2 / 64=2) from ⟨by omega,⟨by omega,h1⟩,hn,h2⟩)]
theorem MY {n b0 b1 b2 b3:Nat} (h:224≤b0∧b0 < 240) (hn:¬(2 < n∧b1 / 64=2∧b2 / 64=2)):Lib.decodeN n b0 b1 b2 b3=(65533,1):=by
 unfold Lib.decodeN
 rw [if_neg (show ¬b0 < 128 by omega),if_neg (show ¬(b0 / 32=6∧(1 < n∧b1 / 64=2)) by omega),if_neg (show ¬(b0 / 16=14∧(1 < n∧b1 / 64=2)∧(2 < n∧b2 / 64=2)) from fun h=>hn ⟨h.2.2.1,h.2.1.2,h.2.2.2⟩),if_neg (by omega)]
theorem dN4 {n b0 b1 b2 b3:Nat} (h:240≤b0∧b0 < 248) (hn:3 < n) (h1:b1 / 64=2) (h2:b2 / 64=2) (h3:b3 / 64=2):Lib.decodeN n b0 b1 b2 b3=if b0 % 8 * 262144 + b1 % 64 * 4096 + b2 % 64 * 64 + b3 % 64 ≥ 65536∧(b0 % 8 * 262144 + b1 % 64 * 4096 + b2 % 64 * 64 + b3 % 64 < 55296∨(57344≤b0 % 8 * 262144 + b1 % 64 * 4096 + b2 % 64 * 64 + b3 % 64∧b0 % 8 * 262144 + b1 % 64 * 4096 + b2 % 64 * 64 + b3 % 64≤1114111)) then (b0 % 8 * 262144 + b1 % 64 * 4096 + b2 % 64 * 64 + b3 % 64,4) else (65533,1):=by
 unfold Lib.decodeN
 rw [if_neg (show ¬b0 < 128 by omega),if_neg (show ¬(b0 / 32=6∧(1 < n∧b1 / 64=2)) by omega),if_neg (show ¬(b0 / 16=14∧(1 < n∧b1 / 64=2)∧(2 < n∧b2 / 64=2)) by omega),
  if_pos (show b0 / 8=30∧(1 < n∧b1 / 64=2)∧(2 < n∧b2 / 64=2)∧(3 < n∧b3 / 64=2) from ⟨by omega,⟨by omega,h1⟩,⟨by omega,h2⟩,hn,h3⟩)]
theorem Hy {n b0 b1 b2 b3:Nat} (h:240≤b0∧b0 < 248) (hn:¬(3 < n∧b1 / 64=2∧b2 / 64=2∧b3 / 64=2)):Lib.decodeN n b0 b1 b2 b3=(65533,1):=by
 unfold Lib.decodeN
 rw [if_neg (show ¬b0 < 128 by omega),if_neg (show ¬(b0 / 32=6∧(1 < n∧b1 / 64=2)) by omega),if_neg (show ¬(b0 / 16=14∧(1 < n∧b1 / 64=2)∧(2 < n∧b2 / 64=2)) by omega),
  if_neg (show ¬(b0 / 8=30∧(1 < n∧b1 / 64=2)∧(2 < n∧b2 / 64=2)∧(3 < n∧b3 / 64=2)) from fun h=>hn ⟨h.2.2.2.1,h.2.1.2,h.2.2.1.2,h.2.2.2.2⟩)]
theorem dN0 {n b0 b1 b2 b3:Nat} (h:128≤b0) (h2:¬(192≤b0∧b0 < 224)) (h3:¬(224≤b0∧b0 < 240)) (h4:¬(240≤b0∧b0 < 248)):Lib.decodeN n b0 b1 b2 b3=(65533,1):=by
 unfold Lib.decodeN
 rw [if_neg (show ¬b0 < 128 by omega),if_neg (by omega),if_neg (by omega),if_neg (by omega)]
theorem sP (b:UInt8) (t:Str):one (b::t)=Lib.decodeL (b::t):=by
 have hb:=b.toNat_lt
 rw [Lib.decodeL_N]
 simp only [one,List.getD_cons_zero,List.getD_cons_succ,List.length_cons]
 by_cases h1:b.toNat < 128
 · simp [Lib.decodeN,h1]
 rw [if_neg h1]
 by_cases h2:192≤b.toNat∧b.toNat < 224
 · have e:hdr b.toNat=(2,b.toNat - 192,128):=by simp [hdr,h2]
   rw [e]
   cases t with
   | nil=>rw [dN2n h2 (by simp)]; simp
   | cons c u=>
     have hc:=c.toNat_lt
     simp only [List.getD_cons_zero,List.getD_cons_succ,List.length_cons,List.take_succ_cons,List.take_zero,goV,Nat.reduceSub]
     rw [if_neg (show ¬(2=0∨u.length + 1 + 1 < 2) by omega)]
     by_cases f1:c.toNat / 64=2
     · rw [if_pos ((cX c).2 f1),dN2 h2 (by omega) f1]
       have ev:64 * (b.toNat - 192) + c.toNat - 128=b.toNat % 32 * 64 + c.toNat % 64:=by omega
       rw [ev]
       simp only [tG]
       repeat' split
       all_goals first | rfl | omega
     · rw [dR f1,dN2n h2 (by omega)]
       rfl
 by_cases h3:224≤b.toNat∧b.toNat < 240
 · have e:hdr b.toNat=(3,b.toNat - 224,2048):=by unfold hdr; rw [if_neg h2,if_pos h3]
   rw [e]
   match t with
   | []=>rw [MY h3 (by simp)]; simp
   | [c]=>rw [MY h3 (by simp)]; simp
   | c::d::u=>
     have hc:=c.toNat_lt
     have hd:=d.toNat_lt
     simp only [List.getD_cons_zero,List.getD_cons_succ,List.length_cons,List.take_succ_cons,List.take_zero,goV,Nat.reduceSub]
     rw [if_neg (show ¬(3=0∨u.length + 1 + 1 + 1 < 3) by omega)]
     by_cases f1:c.toNat / 64=2
     · rw [if_pos ((cX c).2 f1)]
       by_cases f2:d.toNat / 64=2
       · rw [if_pos ((cX d).2 f2),dN3 h3 (by omega) f1 f2]
         have ev:64 * (64 * (b.toNat - 224) + c.toNat - 128) + d.toNat - 128=b.toNat % 16 * 4096 + c.toNat % 64 * 64 + d.toNat % 64:=by omega
         rw [ev]
         simp only [tG]
         repeat' split
         all_goals first | rfl | omega
       · rw [dR f2,MY h3 (by omega)]
         rfl
     · rw [dR f1,MY h3 (by omega)]
       rfl
 by_cases h4:240≤b.toNat∧b.toNat < 248
 · have e:hdr b.toNat=(4,b.toNat - 240,65536):=by unfold hdr; rw [if_neg h2,if_neg h3,if_pos h4]
   rw [e]
   match t with
   | []=>rw [Hy h4 (by simp)]; simp
   | [c]=>rw [Hy h4 (by simp)]; simp
   | [c,d]=>rw [Hy h4 (by simp)]; simp
   | c::d::k::u=>
     have hc:=c.toNat_lt
     have hd:=d.toNat_lt
     have hk:=k.toNat_lt
     simp only [List.getD_cons_zero,List.getD_cons_succ,List.length_cons,List.take_succ_cons,List.take_zero,goV,Nat.reduceSub]
     rw [if_neg (show ¬(4=0∨u.length + 1 + 1 + 1 + 1 < 4) by omega)]
     by_cases f1:c.toNat / 64=2
     · rw [if_pos ((cX c).2 f1)]
       by_cases f2:d.toNat / 64=2
       · rw [if_pos ((cX d).2 f2)]
         by_cases f3:k.toNat / 64=2
         · rw [if_pos ((cX k).2 f3),dN4 h4 (by omega) f1 f2 f3]
           have ev:64 * (64 * (64 * (b.toNat - 240) + c.toNat - 128) + d.toNat - 128) + k.toNat - 128=b.toNat % 8 * 262144 + c.toNat % 64 * 4096 + d.toNat % 64 * 64 + k.toNat % 64:=by omega
           rw [ev]
           simp only [tG]
           repeat' split
           all_goals first | rfl | omega
         · rw [dR f3,Hy h4 (by omega)]
           rfl
       · rw [dR f2,Hy h4 (by omega)]
         rfl
     · rw [dR f1,Hy h4 (by omega)]
       rfl
 have e:hdr b.toNat=(0,0,0):=by unfold hdr; rw [if_neg h2,if_neg h3,if_neg h4]
 rw [e,if_pos (.inl rfl),dN0 (by omega) h2 h3 h4]
theorem ET (r:Nat):er r=Lib.encodeRune (r:Int):=by
 have g:∀ (n:Nat) (z:Int),z=(n:Int)→z.toNat.toUInt8=b8 n:=by
  intro n z h; subst h; rfl
 unfold er Lib.encodeRune Lib.encodeRuneZ
 simp only
 by_cases h0:1114111 < r∨(55296≤r∧r≤57343)
 · rw [if_pos h0,if_neg (show ¬(0≤(r:Int)∧(r:Int)≤127) by omega),if_neg (show ¬(128≤(r:Int)∧(r:Int)≤2047) by omega),
    if_neg (show ¬((2048≤(r:Int)∧(r:Int) < 55296)∨(57343 < (r:Int)∧(r:Int)≤65535)) by omega),if_neg (show ¬(65536≤(r:Int)∧(r:Int)≤1114111) by omega)]
   decide
 · rw [if_neg h0]
   by_cases h1:r < 128
   · rw [if_pos h1,if_pos (by omega)]
     simp only [List.map_cons,List.map_nil]
     rw [g r _ rfl]
   · rw [if_neg h1,if_neg (by omega:¬(0≤(r:Int)∧(r:Int)≤127))]
     by_cases h2:r < 2048
     · rw [if_pos h2,if_pos (by omega)]
       simp only [List.map_cons,List.map_nil]
       rw [g (192 + r / 64) _ (by omega),g (128 + r % 64) _ (by omega)]
     · rw [if_neg h2,if_neg (by omega:¬(128≤(r:Int)∧(r:Int)≤2047))]
       by_cases h3:r < 65536
       · rw [if_pos h3,if_pos (by omega)]
         simp only [List.map_cons,List.map_nil]
         rw [g (224 + r / 4096) _ (by omega),g (128 + r / 64 % 64) _ (by omega),g (128 + r % 64) _ (by omega)]
       · rw [if_neg h3,if_neg (by omega),if_pos (by omega)]
         simp only [List.map_cons,List.map_nil]
         rw [g (240 + r / 262144) _ (by omega),g (128 + r / 4096 % 64) _ (by omega),g (128 + r / 64 % 64) _ (by omega),g (128 + r % 64) _ (by omega)]
theorem dg:∀ n,Lib.validGoD n []=true
 | 0=>rfl
 | _ + 1=>by simp [Lib.validGoD]
theorem m7:∀ (n m:Nat) (l:Str),l.length≤n→l.length≤m→Lib.validGoD n l=Lib.validGoD m l
 | 0,m,l,hn,_=>by
   have:l=[]:=List.eq_nil_of_length_eq_zero (by omega)
   subst this
   rw [dg,dg]
 | n + 1,0,l,_,hm=>by
   have:l=[]:=List.eq_nil_of_length_eq_zero (by omega)
   subst this
   rw [dg,dg]
 | n + 1,m + 1,l,hn,hm=>by
   by_cases hne:l=[]
   · subst hne
     rw [dg,dg]
   · have hw:=Lib.decodeL_width l
     have hl:0 < l.length:=List.length_pos_iff.2 hne
     simp only [Lib.validGoD,if_neg hne]
     rw [m7 n m _ (by rw [List.length_drop]; omega) (by rw [List.length_drop]; omega)]
theorem Bg (b:UInt8) (t:Str):Lib.validD (b::t)=if (one (b::t)).1=65533∧(one (b::t)).2=1 then false else Lib.validD ((b::t).drop (one (b::t)).2):=by
 rw [sP]
 unfold Lib.validD
 simp only [List.length_cons,Lib.validGoD,List.cons_ne_nil,if_false]
 have hw:=Lib.decodeL_width (b::t)
 rw [m7 t.length _ _ (by rw [List.length_drop]; simp; omega) (Nat.le_refl _)]
def isU (s:Str):Bool:=Lib.validD s && (cr s).all fun r=>!decide (r=0) && !decide (r=13)
theorem yb {b:UInt8} {t:Str} (h:(one (b::t)).1 < 128):b.toNat=(one (b::t)).1:=by
 simp only [one] at h ⊢
 by_cases h1:b.toNat < 128
 · rw [if_pos h1]
 · rw [if_neg h1] at h
   exfalso
   by_cases h2:(hdr b.toNat).1=0∨t.length + 1 < (hdr b.toNat).1
   · rw [if_pos h2] at h; simp at h
   · rw [if_neg h2] at h
     have h3:128≤(hdr b.toNat).2.2:=by
      have h2':¬(hdr b.toNat).1=0:=fun h=>h2 (.inl h)
      revert h2'
      unfold hdr
      repeat' split
      all_goals simp
     revert h
     unfold tG
     split
     · simp
     · split
       · simp
       · rename_i h4
         simp only
         omega
theorem Bk:∀ (n:Nat) (s:Str) (p:Option Nat),s.length≤n→p≠some 13→(gX (iE p (cr s))=s↔isU s=true)
 | n,[],p,_,_=>by simp [cr,eB,iE,gX,isU,Lib.validD,Lib.validGoD]
 | 0,b::t,p,h,_=>by simp at h
 | n + 1,b::t,p,h,hp=>by
   have hor:=eC (b::t)
   have hlen:=hor.2.2.1 (by simp)
   have hd:((b::t).drop (one (b::t)).2).length≤n:=by rw [List.length_drop]; simp at h ⊢; omega
   rw [eA]
   simp only [iE,isU,eA,List.all_cons,Bg]
   rw [if_neg (fun h=>hp h.2)]
   simp only [gX,List.map_append,List.map_cons,List.map_nil,List.flatten_append,List.flatten_cons,List.flatten_nil,List.append_nil]
   by_cases h13:(one (b::t)).1=13
   · have hb:=yb (b:=b) (t:=t) (by omega)
     rw [if_pos h13]
     have e10:er 10=[10]:=by decide
     rw [h13] at hb
     rw [e10,h13]
     simp
     intro hh
     rw [←hh] at hb
     simp at hb
   · by_cases h00:(one (b::t)).1=0
     · have hb:=yb (b:=b) (t:=t) (by omega)
       rw [if_neg h13,if_pos h00]
       have e:er 65533=[239,191,189]:=by decide
       rw [h00] at hb
       rw [e,h00]
       simp
       intro hh
       rw [←hh] at hb
       simp at hb
     · rw [if_neg h13,if_neg h00]
       by_cases hbad:(one (b::t)).1=65533∧(one (b::t)).2=1
       · rw [if_pos hbad]
         have e:er 65533=[239,191,189]:=by decide
         rw [hbad.1,e]
         simp only [Bool.false_and,Bool.false_eq_true,iff_false]
         intro hh
         have:one (b::t)=(65533,3):=by
          rw [←hh,List.cons_append,List.cons_append,List.cons_append,one]
          simp [hdr,goV,follows,tG]
         rw [this] at hbad
         simp at hbad
       · rw [if_neg hbad]
         have hbad':¬((Lib.decodeL (b::t)).1=65533∧(Lib.decodeL (b::t)).2=1):=by rw [←sP]; exact hbad
         have henc:=Lib.encode_decode (b::t) (by simp) hbad'
         rw [←sP,←ET] at henc
         rw [henc]
         have ih:=Bk n ((b::t).drop (one (b::t)).2) (some (one (b::t)).1) hd (by simpa using h13)
         simp only [gX,isU] at ih
         have key:(List.take (one (b::t)).2 (b::t)++(List.map er (iE (some (one (b::t)).1) (cr (List.drop (one (b::t)).2 (b::t))))).flatten=b::t)↔((List.map er (iE (some (one (b::t)).1) (cr (List.drop (one (b::t)).2 (b::t))))).flatten=List.drop (one (b::t)).2 (b::t)):=by
          constructor
          · intro hh
            have h2:=hh.trans (List.take_append_drop (one (b::t)).2 (b::t)).symm
            exact List.append_cancel_left h2
          · intro hh
            rw [hh]
            exact List.take_append_drop _ _
         rw [key,ih]
         simp [h13,h00]
theorem Gp (s:Str):o9 s=isU s:=by
 have:=Bk s.length s none (Nat.le_refl _) (by simp)
 unfold o9 cJ
 rw [Bool.eq_iff_iff,decide_eq_true_iff]
 exact this
theorem Kc (s:Str) (p:Nat) (h:p < s.length):pV s p=one (s.drop p):=by
 have:pV s p=Lib.decodeL (s.drop p):=by
  have:=Lib.decodeL_drop ⟨s.toArray⟩ p
  simpa [pV] using this.symm
 rw [this]
 cases hs:s.drop p with
 | nil=>have:=congrArg List.length hs; simp at this; omega
 | cons b t=>rw [sP]
end Go.Abs.F
end
section
set_option maxHeartbeats 4000000
set_option maxRecDepth 100000
namespace Go.Abs.F
open Go.Proofs
attribute [-simp] getElem?_pos Option.not_isSome List.map_map
theorem kA (s t:Str) (hs:s.length < 4294967281):Fn Tryz.prog r8 [.str s,.str t] (.int .i64 (Lib.index s t)):=by
 refine Fn.of_image mixed so se rfl fun ho=>?_
 unfold kD
 simp only [oks,ok,and_true] at ho
 clear ho
 simp (disch:=omega) [-List.reduceReplicate]
 refine ac (m4 s t hs) rfl fun _=>?_
 simp (disch:=omega) [-List.reduceReplicate]
theorem oy (s t:Str) (hs:s.length < 4294967281):Fn Tryz.prog n6 [.str s,.str t] (.bool (decide (0≤Lib.index s t))):=by
 refine Fn.of_image mixed oo oe rfl fun ho=>?_
 unfold gP
 simp only [oks,ok,and_true] at ho
 clear ho
 simp (disch:=omega) [-List.reduceReplicate]
 refine ac (kA s t hs) rfl fun _=>?_
 simp (disch:=omega) [-List.reduceReplicate]
theorem iH (s:Str):Fn Tryz.prog d4 [.str s,.str [42]] (.bool (dU s).2):=by
 refine Fn.of_image mixed ej d9 rfl fun ho=>?_
 unfold bP
 simp only [oks,ok,and_true] at ho
 by_cases hp:0 < s.length
 · obtain ⟨x,hx⟩:=aV (l:=s) (k:=s.length - 1) (by omega)
   have hd:s.drop (s.length - 1)=[x]:=by
    rw [List.drop_eq_getElem_cons (by omega)]
    have:s[s.length - 1]?=some (s[s.length - 1]'(by omega)):=List.getElem?_eq_getElem _
    rw [this] at hx
    cases hx
    have:s.drop (s.length - 1 + 1)=[]:=by rw [List.drop_eq_nil_iff]; omega
    rw [this]
   have e:((s.length:Int) - 1).toNat=s.length - 1:=by omega
   have hst:(dU s).2=decide (x=42):=by
    simp only [dU,hx]
    by_cases h:x.toNat=42
    · have:x=42:=by apply UInt8.toNat_inj.1; simpa using h
      simp [this]
    · have:¬x=42:=by rintro rfl; simp at h
      simp [h,this]
   rw [hst]
   simp (disch:=omega) [-List.reduceReplicate,e,hd]
   repeat' (first | (refine BrKd.mk (fun h=>?_) (fun h=>?_)<;>simp (disch:=omega) [*]) | (refine BrK.mk (fun h=>?_) (fun h=>?_)<;>simp (disch:=omega) [*]))
   all_goals first
    | omega
    | (have e1:s.length - (s.length - 1)=1:=by omega
       simp [*,e1])
 · have:s=[]:=by cases s; rfl; simp at hp
   subst this
   simp (disch:=omega) [-List.reduceReplicate,dU]
theorem iI (s:Str):Fn Tryz.prog d6 [.str s,.str [42]] (.tup [.str (dU s).1,.bool (dU s).2]):=by
 refine Fn.of_image mixed el ee rfl fun ho=>?_
 unfold bR
 simp only [oks,ok,and_true] at ho
 simp (disch:=omega) [-List.reduceReplicate]
 refine ac (iH s) rfl fun _=>?_
 simp (disch:=omega) [-List.reduceReplicate]
 refine BrK.mk (fun h=>?_) (fun h=>?_)
 · have hp:0 < s.length:=by
    cases s with
    | nil=>simp [dU] at h
    | cons _ _=>simp
   have e:((s.length:Int) - 1).toNat=s.length - 1:=by omega
   have c1:1≤s.length:=hp
   have c2:(s.length:Int) - 1≤s.length:=by omega
   have hst:dU s=(s.take (s.length - 1),true):=by
    cases hx:s[s.length - 1]? with
    | none=>simp [dU,hx] at h
    | some x=>by_cases hc:x.toNat=42<;>simp [dU,hx,hc] at h ⊢
   simp (disch:=omega) [-List.reduceReplicate,hst,e,c1,c2]
 · have hst:dU s=(s,false):=by
    cases hx:s[s.length - 1]? with
    | none=>simp [dU,hx]
    | some x=>by_cases hc:x.toNat=42<;>simp [dU,hx,hc] at h ⊢
   simp (disch:=omega) [-List.reduceReplicate,hst]
theorem lO (s:Str):Fn Tryz.prog mU [.str s,.str [42]] (.tup [.str (dU s).1,.bool (dU s).2]):=by
 refine Fn.of_image mixed m2 mY rfl fun ho=>?_
 unfold fV
 simp only [oks,ok,and_true] at ho
 simp (disch:=omega) [-List.reduceReplicate]
 refine ac (iI s) rfl fun _=>?_
 simp (disch:=omega) [-List.reduceReplicate]
theorem qL (s:Str):Fn Tryz.prog qA [.str s] (.tup [.str (dU s).1,.bool (dU s).2,.bool (plain (dU s).1)]):=by
 refine Fn.of_image mixed qI qG rfl fun ho=>?_
 unfold jm
 simp only [oks,ok,and_true] at ho
 simp (disch:=omega) [-List.reduceReplicate]
 refine ac (lO s) rfl fun _=>?_
 simp (disch:=omega) [-List.reduceReplicate]
 refine ac (u6 _) rfl fun _=>?_
 simp (disch:=omega) [-List.reduceReplicate]
theorem C8 (s:Str):dN s s=true:=by simp [dN]
theorem xx (pat nm:Str):Fn Tryz.prog wd [.str pat,.str nm] (.bool (fits pat nm)):=by
 refine Fn.of_image mixed xd wG rfl fun ho=>?_
 unfold nF
 simp only [oks,ok,and_true] at ho
 simp (disch:=omega) [-List.reduceReplicate,fits]
 refine ac (qL pat) rfl fun _=>?_
 generalize (dU pat).1=a at *
 generalize (dU pat).2=b at *
 simp (disch:=omega) [-List.reduceReplicate]
 repeat' (first | (refine BrKd.mk (fun h=>?_) (fun h=>?_)<;>simp (disch:=omega) [*]) | (refine BrK.mk (fun h=>?_) (fun h=>?_)<;>simp (disch:=omega) [*]) | (refine ac (fS _ _) rfl (fun _=>?_)<;>simp (disch:=omega) [*]) | (refine az (fS _ _) rfl ?_<;>simp (disch:=omega) [*]))
 all_goals simp [C8, *]
theorem xw (e:Allowed) (s:Str):Fn Tryz.prog wc [e.v,.str s] (.tup [((jg e.rules s).getD .zero).v,.bool (jg e.rules s).isSome]):=by
 refine Fn.of_image mixed xc wF rfl fun ho=>?_
 unfold nE
 simp only [oks,ok,and_true] at ho
 have hlen:e.rules.length≤140737488355328:=by have:=ho.1; simp at this; exact this.2.2.1
 clear ho
 simp (disch:=omega) [-List.reduceReplicate]
 generalize hr:jg e.rules s=r
 refine am (fun k:Nat=>⟨[(1,.str s),(4,.ptr 0 0),(9,.seq 5 (e.rules.map Rule.v)),(10,.int .i64 e.rules.length),(11,.int .i64 k)],[some (.box [.str [],.int .i64 0,.nil 1,.str [],.bool false])]⟩) (fun k=>k≤e.rules.length∧jg (e.rules.drop k) s=r) (fun k=>e.rules.length - k) [] _ 0 rfl (by simp [*]) (by simp [*]) ?_
 rintro k ⟨hk,hi⟩ N hN
 rcases place e.rules k hk with ⟨he,hd⟩ | ⟨hlt,x,hx,hd⟩<;>rw [hd] at hi<;>replace hi:=hid hi
 · simp (disch:=omega) [-List.reduceReplicate,he]
   simp [←hi.out,jg,Rule.zero]
 · simp (disch:=omega) [-List.reduceReplicate,hx]
   refine ac (xx _ _) rfl fun _=>?_
   simp (disch:=omega) [-List.reduceReplicate]
   refine BrK.mk (fun h=>?_) (fun h=>?_)
   · simp (disch:=omega) [-List.reduceReplicate,hx]
     have hi:=hi.out
     simp [jg,h] at hi
     subst hi
     simp
   · simp (disch:=omega) [-List.reduceReplicate]
     refine hN.out _<|Nx.mk (k + 1) (by simp [*]) ⟨by omega,?_⟩ (by omega)
     have hi:=hi.out
     simpa [jg,h] using hi
def px (p:Policy) (par:Str) (n:Node):Bool:=
 if par=[] then (if n.kind=2 then hasS p.top gI else if n.kind=3 then hasS p.top cu else decide (n.kind=1) && ((a8 p.elements n.name).isSome && hasS p.top n.name))
 else match a8 p.elements par with
  | none=>false
  | some e=>if n.kind=2 then hasS e.kids gI else if n.kind=3 then hasS e.kids cu else decide (n.kind=1) && ((a8 p.elements n.name).isSome && hasS e.kids n.name)
theorem sC (p:Policy) (par:Str) (n:Node):Fn Tryz.prog sc [p.v,.str par,n.v] (.bool (px p par n)):=by
 refine Fn.of_image mixed sv si rfl fun ho=>?_
 unfold kH
 simp only [oks,ok,and_true] at ho
 clear ho
 simp (disch:=omega) [-List.reduceReplicate,px]
 refine BrKd.mk (fun h=>?_) (fun h=>?_)
 · simp (disch:=omega) [-List.reduceReplicate,h]
   repeat' (first
    | (refine BrKd.mk (fun h=>?_) (fun h=>?_)<;>simp (disch:=omega) [*])
    | (refine BrK.mk (fun h=>?_) (fun h=>?_)<;>simp (disch:=omega) [*])
    | (refine aK (eK p n.name) (by simp) (fun _=>?_)<;>simp (disch:=omega) [*])
    | (refine ac (f_slices_Contains_string p.top _) rfl (fun _=>?_)<;>simp (disch:=omega) [gI,cu, *]))
 · simp (disch:=omega) [-List.reduceReplicate,h]
   refine aK (eK p par) (by simp) fun _=>?_
   cases hf:a8 p.elements par with
   | none=>
     simp (disch:=omega) [-List.reduceReplicate,hf]
   | some e=>
     simp (disch:=omega) [-List.reduceReplicate,hf]
     repeat' (first
      | (refine BrKd.mk (fun h=>?_) (fun h=>?_)<;>simp (disch:=omega) [*])
      | (refine BrK.mk (fun h=>?_) (fun h=>?_)<;>simp (disch:=omega) [*])
      | (refine aK (eK p n.name) (by simp) (fun _=>?_)<;>simp (disch:=omega) [*])
      | (refine ac (f_slices_Contains_string e.kids _) rfl (fun _=>?_)<;>simp (disch:=omega) [gI,cu, *]))
theorem xB (l:List Attr) (s:Str):Fn Tryz.prog wi [.seq 2 (l.map Attr.v),.str s] (.bool (iD l s)):=by
 refine Fn.of_image mixed xi wL rfl fun ho=>?_
 unfold nK
 simp only [oks,ok,and_true] at ho
 have hlen:l.length≤140737488355328:=by have:=ho.1.1; simpa using this
 clear ho
 simp (disch:=omega) [-List.reduceReplicate]
 generalize hr:iD l s=r
 refine am (fun k:Nat=>⟨[(1,.str s),(7,.seq 2 (l.map Attr.v)),(8,.int .i64 l.length),(9,.int .i64 k)],[]⟩) (fun k=>k≤l.length∧iD (l.drop k) s=r) (fun k=>l.length - k) [] _ 0 rfl (by simp [*]) (by simp [*]) ?_
 rintro k ⟨hk,hi⟩ N hN
 rcases place l k hk with ⟨he,hd⟩ | ⟨hlt,x,hx,hd⟩<;>rw [hd] at hi<;>replace hi:=hid hi
 · simp (disch:=omega) [-List.reduceReplicate,he]
   simpa [iD] using hi.out
 · simp (disch:=omega) [-List.reduceReplicate,hx]
   repeat' (first | (refine BrKd.mk (fun h=>?_) (fun h=>?_)<;>simp (disch:=omega) [*]) | (refine BrK.mk (fun h=>?_) (fun h=>?_)<;>simp (disch:=omega) [*]))
   all_goals first
    | (refine hN.out _<|Nx.mk (k + 1) (by simp [*]) ⟨by omega,?_⟩ (by omega); simpa (disch:=omega) [*,decide_eq_true,decide_eq_false,iD] using hi.out)
    | (first | simpa (disch:=omega) [*,decide_eq_true,decide_eq_false,iD] using hi.out.symm | simpa (disch:=omega) [*,decide_eq_true,decide_eq_false,iD] using hi.out)
def ml (p:Policy) (k:Int) (par:Str) (n:Node):Bool:=if (k=0∧par=[])∨(k=1∧par≠[]) then px p par n else false
theorem vb (p:Policy) (k:Int) (par:Str) (n:Node):Fn Tryz.prog tY [p.v,.strct [.int .i64 k,.str par],n.v] (.bool (ml p k par n)):=by
 refine Fn.of_image mixed uP uz rfl fun ho=>?_
 unfold mf
 simp only [oks,ok,and_true] at ho
 clear ho
 by_cases h0:k=0<;>by_cases hp:par=[]<;>by_cases h1:k=1
 all_goals first
  | omega
  | (simp (disch:=omega) [-List.reduceReplicate,ml,aX,dW,bf,kOf,aC,cl,eqK,pQ,eqC,h0,hp,h1]; done)
  | (simp (disch:=omega) [-List.reduceReplicate,ml,aX,dW,bf,kOf,aC,cl,eqK,pQ,eqC,h0,hp,h1]
     refine ac (by simpa using sC p _ n) rfl fun _=>?_
     simp (disch:=omega) [-List.reduceReplicate,h0,hp,h1]; done)
end Go.Abs.F
end
