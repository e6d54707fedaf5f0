/-
  Plain: the texts that are right: the document's answer and the program's. No program in sight. No condition.
  Plain: right texts as characters one behind the other. No program's run in sight. No condition.
  Plain: what 'Good' of layer 6 makes is stable: attributes, merged texts, steady nodes. No condition.
  Plain: what 'Good' of layer 6 makes is stable. No condition.
-/
import Derived.Test.YtnnbodoijkbceaaGreatDoorLF1
import Derived.Lib.MapLaws
import Derived.Lib.TrimUEq
import Derived.Lib.ValidU
set_option linter.all false
set_option maxHeartbeats 0
set_option maxRecDepth 100000
section
namespace Go.Abs.F
open Go.Proofs
theorem dy (c:UInt8):follows c=true↔c.toNat / 64=2:=by
 have:=c.toNat_lt
 simp [follows]; omega
theorem d7 {c:UInt8} (h:¬c.toNat / 64=2):follows c=false:=by
 cases h':follows c with
 | false=>rfl
 | true=>exact (h ((dy c).1 h')).elim
theorem dN2 {n b0 b1 b2 b3:Nat} (h:192≤b0∧b0 < 224) (hn:1 < n) (h1:b1 / 64=2):Lib.decodeN n b0 b1 b2 b3=if b0 % 32 * 64 + b1 % 64 ≥ 128 then (b0 % 32 * 64 + b1 % 64,2) else (65533,1):=by
 unfold Lib.decodeN
 rw [if_neg (show ¬b0 < 128 by omega),if_pos (show b0 / 32=6∧(1 < n∧b1 / 64=2) from ⟨by omega,hn,h1⟩)]
theorem dN2n {n b0 b1 b2 b3:Nat} (h:192≤b0∧b0 < 224) (hn:¬(1 < n∧b1 / 64=2)):Lib.decodeN n b0 b1 b2 b3=(65533,1):=by
 unfold Lib.decodeN
 rw [if_neg (show ¬b0 < 128 by omega),if_neg (show ¬(b0 / 32=6∧(1 < n∧b1 / 64=2)) from fun h=>hn h.2),if_neg (by omega),if_neg (by omega)]
theorem dN3 {n b0 b1 b2 b3:Nat} (h:224≤b0∧b0 < 240) (hn:2 < n) (h1:b1 / 64=2) (h2:b2 / 64=2):Lib.decodeN n b0 b1 b2 b3=if b0 % 16 * 4096 + b1 % 64 * 64 + b2 % 64 ≥ 2048∧(b0 % 16 * 4096 + b1 % 64 * 64 + b2 % 64 < 55296∨(57344≤b0 % 16 * 4096 + b1 % 64 * 64 + b2 % 64∧b0 % 16 * 4096 + b1 % 64 * 64 + b2 % 64≤1114111)) then (b0 % 16 * 4096 + b1 % 64 * 64 + b2 % 64,3) else (65533,1):=by
 unfold Lib.decodeN
 rw [if_neg (show ¬b0 < 128 by omega),if_neg (show ¬(b0 / 32=6∧(1 < n∧b1 / 64=2)) by omega),if_pos (show b0 / 16=14∧(1 < n∧b1 / 64=2)∧(2 < n∧b2 / 64=2) from ⟨by omega,⟨by omega,h1⟩,hn,h2⟩)]
theorem Ng {n b0 b1 b2 b3:Nat} (h:224≤b0∧b0 < 240) (hn:¬(2 < n∧b1 / 64=2∧b2 / 64=2)):Lib.decodeN n b0 b1 b2 b3=(65533,1):=by
 unfold Lib.decodeN
 rw [if_neg (show ¬b0 < 128 by omega),if_neg (show ¬(b0 / 32=6∧(1 < n∧b1 / 64=2)) by omega),if_neg (show ¬(b0 / 16=14∧(1 < n∧b1 / 64=2)∧(2 < n∧b2 / 64=2)) from fun h=>hn ⟨h.2.2.1,h.2.1.2,h.2.2.2⟩),if_neg (by omega)]
theorem dN4 {n b0 b1 b2 b3:Nat} (h:240≤b0∧b0 < 248) (hn:3 < n) (h1:b1 / 64=2) (h2:b2 / 64=2) (h3:b3 / 64=2):Lib.decodeN n b0 b1 b2 b3=if b0 % 8 * 262144 + b1 % 64 * 4096 + b2 % 64 * 64 + b3 % 64 ≥ 65536∧(b0 % 8 * 262144 + b1 % 64 * 4096 + b2 % 64 * 64 + b3 % 64 < 55296∨(57344≤b0 % 8 * 262144 + b1 % 64 * 4096 + b2 % 64 * 64 + b3 % 64∧b0 % 8 * 262144 + b1 % 64 * 4096 + b2 % 64 * 64 + b3 % 64≤1114111)) then (b0 % 8 * 262144 + b1 % 64 * 4096 + b2 % 64 * 64 + b3 % 64,4) else (65533,1):=by
 unfold Lib.decodeN
 rw [if_neg (show ¬b0 < 128 by omega),if_neg (show ¬(b0 / 32=6∧(1 < n∧b1 / 64=2)) by omega),if_neg (show ¬(b0 / 16=14∧(1 < n∧b1 / 64=2)∧(2 < n∧b2 / 64=2)) by omega),
  if_pos (show b0 / 8=30∧(1 < n∧b1 / 64=2)∧(2 < n∧b2 / 64=2)∧(3 < n∧b3 / 64=2) from ⟨by omega,⟨by omega,h1⟩,⟨by omega,h2⟩,hn,h3⟩)]
theorem Hh {n b0 b1 b2 b3:Nat} (h:240≤b0∧b0 < 248) (hn:¬(3 < n∧b1 / 64=2∧b2 / 64=2∧b3 / 64=2)):Lib.decodeN n b0 b1 b2 b3=(65533,1):=by
 unfold Lib.decodeN
 rw [if_neg (show ¬b0 < 128 by omega),if_neg (show ¬(b0 / 32=6∧(1 < n∧b1 / 64=2)) by omega),if_neg (show ¬(b0 / 16=14∧(1 < n∧b1 / 64=2)∧(2 < n∧b2 / 64=2)) by omega),
  if_neg (show ¬(b0 / 8=30∧(1 < n∧b1 / 64=2)∧(2 < n∧b2 / 64=2)∧(3 < n∧b3 / 64=2)) from fun h=>hn ⟨h.2.2.2.1,h.2.1.2,h.2.2.1.2,h.2.2.2.2⟩)]
theorem dN0 {n b0 b1 b2 b3:Nat} (h:128≤b0) (h2:¬(192≤b0∧b0 < 224)) (h3:¬(224≤b0∧b0 < 240)) (h4:¬(240≤b0∧b0 < 248)):Lib.decodeN n b0 b1 b2 b3=(65533,1):=by
 unfold Lib.decodeN
 rw [if_neg (show ¬b0 < 128 by omega),if_neg (by omega),if_neg (by omega),if_neg (by omega)]
theorem tz (b:UInt8) (t:Str):one (b::t)=Lib.decodeL (b::t):=by
 have hb:=b.toNat_lt
 rw [Lib.decodeL_N]
 simp only [one,List.getD_cons_zero,List.getD_cons_succ,List.length_cons]
 by_cases h1:b.toNat < 128
 · simp [Lib.decodeN,h1]
 rw [if_neg h1]
 by_cases h2:192≤b.toNat∧b.toNat < 224
 · have e:hdr b.toNat=(2,b.toNat - 192,128):=by simp [hdr,h2]
   rw [e]
   cases t with
   | nil=>rw [dN2n h2 (by simp)]; simp
   | cons c u=>
     have hc:=c.toNat_lt
     simp only [List.getD_cons_zero,List.getD_cons_succ,List.length_cons,List.take_succ_cons,List.take_zero,goV,Nat.reduceSub]
     rw [if_neg (show ¬(2=0∨u.length + 1 + 1 < 2) by omega)]
     by_cases f1:c.toNat / 64=2
     · rw [if_pos ((dy c).2 f1),dN2 h2 (by omega) f1]
       have ev:64 * (b.toNat - 192) + c.toNat - 128=b.toNat % 32 * 64 + c.toNat % 64:=by omega
       rw [ev]
       simp only [pD]
       repeat' split
       all_goals first | rfl | omega
     · rw [d7 f1,dN2n h2 (by omega)]
       rfl
 by_cases h3:224≤b.toNat∧b.toNat < 240
 · have e:hdr b.toNat=(3,b.toNat - 224,2048):=by unfold hdr; rw [if_neg h2,if_pos h3]
   rw [e]
   match t with
   | []=>rw [Ng h3 (by simp)]; simp
   | [c]=>rw [Ng h3 (by simp)]; simp
   | c::d::u=>
     have hc:=c.toNat_lt
     have hd:=d.toNat_lt
     simp only [List.getD_cons_zero,List.getD_cons_succ,List.length_cons,List.take_succ_cons,List.take_zero,goV,Nat.reduceSub]
     rw [if_neg (show ¬(3=0∨u.length + 1 + 1 + 1 < 3) by omega)]
     by_cases f1:c.toNat / 64=2
     · rw [if_pos ((dy c).2 f1)]
       by_cases f2:d.toNat / 64=2
       · rw [if_pos ((dy d).2 f2),dN3 h3 (by omega) f1 f2]
         have ev:64 * (64 * (b.toNat - 224) + c.toNat - 128) + d.toNat - 128=b.toNat % 16 * 4096 + c.toNat % 64 * 64 + d.toNat % 64:=by omega
         rw [ev]
         simp only [pD]
         repeat' split
         all_goals first | rfl | omega
       · rw [d7 f2,Ng h3 (by omega)]
         rfl
     · rw [d7 f1,Ng h3 (by omega)]
       rfl
 by_cases h4:240≤b.toNat∧b.toNat < 248
 · have e:hdr b.toNat=(4,b.toNat - 240,65536):=by unfold hdr; rw [if_neg h2,if_neg h3,if_pos h4]
   rw [e]
   match t with
   | []=>rw [Hh h4 (by simp)]; simp
   | [c]=>rw [Hh h4 (by simp)]; simp
   | [c,d]=>rw [Hh h4 (by simp)]; simp
   | c::d::k::u=>
     have hc:=c.toNat_lt
     have hd:=d.toNat_lt
     have hk:=k.toNat_lt
     simp only [List.getD_cons_zero,List.getD_cons_succ,List.length_cons,List.take_succ_cons,List.take_zero,goV,Nat.reduceSub]
     rw [if_neg (show ¬(4=0∨u.length + 1 + 1 + 1 + 1 < 4) by omega)]
     by_cases f1:c.toNat / 64=2
     · rw [if_pos ((dy c).2 f1)]
       by_cases f2:d.toNat / 64=2
       · rw [if_pos ((dy d).2 f2)]
         by_cases f3:k.toNat / 64=2
         · rw [if_pos ((dy k).2 f3),dN4 h4 (by omega) f1 f2 f3]
           have ev:64 * (64 * (64 * (b.toNat - 240) + c.toNat - 128) + d.toNat - 128) + k.toNat - 128=b.toNat % 8 * 262144 + c.toNat % 64 * 4096 + d.toNat % 64 * 64 + k.toNat % 64:=by omega
           rw [ev]
           simp only [pD]
           repeat' split
           all_goals first | rfl | omega
         · rw [d7 f3,Hh h4 (by omega)]
           rfl
       · rw [d7 f2,Hh h4 (by omega)]
         rfl
     · rw [d7 f1,Hh h4 (by omega)]
       rfl
 have e:hdr b.toNat=(0,0,0):=by unfold hdr; rw [if_neg h2,if_neg h3,if_neg h4]
 rw [e,if_pos (.inl rfl),dN0 (by omega) h2 h3 h4]
theorem EY (r:Nat):bD r=Lib.encodeRune (r:Int):=by
 have g:∀ (n:Nat) (z:Int),z=(n:Int)→z.toNat.toUInt8=b8 n:=by
  intro n z h; subst h; rfl
 unfold bD Lib.encodeRune Lib.encodeRuneZ
 simp only
 by_cases h0:1114111 < r∨(55296≤r∧r≤57343)
 · rw [if_pos h0,if_neg (show ¬(0≤(r:Int)∧(r:Int)≤127) by omega),if_neg (show ¬(128≤(r:Int)∧(r:Int)≤2047) by omega),
    if_neg (show ¬((2048≤(r:Int)∧(r:Int) < 55296)∨(57343 < (r:Int)∧(r:Int)≤65535)) by omega),if_neg (show ¬(65536≤(r:Int)∧(r:Int)≤1114111) by omega)]
   decide
 · rw [if_neg h0]
   by_cases h1:r < 128
   · rw [if_pos h1,if_pos (by omega)]
     simp only [List.map_cons,List.map_nil]
     rw [g r _ rfl]
   · rw [if_neg h1,if_neg (by omega:¬(0≤(r:Int)∧(r:Int)≤127))]
     by_cases h2:r < 2048
     · rw [if_pos h2,if_pos (by omega)]
       simp only [List.map_cons,List.map_nil]
       rw [g (192 + r / 64) _ (by omega),g (128 + r % 64) _ (by omega)]
     · rw [if_neg h2,if_neg (by omega:¬(128≤(r:Int)∧(r:Int)≤2047))]
       by_cases h3:r < 65536
       · rw [if_pos h3,if_pos (by omega)]
         simp only [List.map_cons,List.map_nil]
         rw [g (224 + r / 4096) _ (by omega),g (128 + r / 64 % 64) _ (by omega),g (128 + r % 64) _ (by omega)]
       · rw [if_neg h3,if_neg (by omega),if_pos (by omega)]
         simp only [List.map_cons,List.map_nil]
         rw [g (240 + r / 262144) _ (by omega),g (128 + r / 4096 % 64) _ (by omega),g (128 + r / 64 % 64) _ (by omega),g (128 + r % 64) _ (by omega)]
theorem dB:∀ n,Lib.validGoD n []=true
 | 0=>rfl
 | _ + 1=>by simp [Lib.validGoD]
theorem nc:∀ (n m:Nat) (l:Str),l.length≤n→l.length≤m→Lib.validGoD n l=Lib.validGoD m l
 | 0,m,l,hn,_=>by
   have:l=[]:=List.eq_nil_of_length_eq_zero (by omega)
   subst this
   rw [dB,dB]
 | n + 1,0,l,_,hm=>by
   have:l=[]:=List.eq_nil_of_length_eq_zero (by omega)
   subst this
   rw [dB,dB]
 | n + 1,m + 1,l,hn,hm=>by
   by_cases hne:l=[]
   · subst hne
     rw [dB,dB]
   · have hw:=Lib.decodeL_width l
     have hl:0 < l.length:=List.length_pos_iff.2 hne
     simp only [Lib.validGoD,if_neg hne]
     rw [nc n m _ (by rw [List.length_drop]; omega) (by rw [List.length_drop]; omega)]
theorem Ba (b:UInt8) (t:Str):Lib.validD (b::t)=if (one (b::t)).1=65533∧(one (b::t)).2=1 then false else Lib.validD ((b::t).drop (one (b::t)).2):=by
 rw [tz]
 unfold Lib.validD
 simp only [List.length_cons,Lib.validGoD,List.cons_ne_nil,if_false]
 have hw:=Lib.decodeL_width (b::t)
 rw [nc t.length _ _ (by rw [List.length_drop]; simp; omega) (Nat.le_refl _)]
def isU (s:Str):Bool:=Lib.validD s && (cK s).all fun r=>!decide (r=0) && !decide (r=13)
theorem yn {b:UInt8} {t:Str} (h:(one (b::t)).1 < 128):b.toNat=(one (b::t)).1:=by
 simp only [one] at h ⊢
 by_cases h1:b.toNat < 128
 · rw [if_pos h1]
 · rw [if_neg h1] at h
   exfalso
   by_cases h2:(hdr b.toNat).1=0∨t.length + 1 < (hdr b.toNat).1
   · rw [if_pos h2] at h; simp at h
   · rw [if_neg h2] at h
     have h3:128≤(hdr b.toNat).2.2:=by
      have h2':¬(hdr b.toNat).1=0:=fun h=>h2 (.inl h)
      revert h2'
      unfold hdr
      repeat' split
      all_goals simp
     revert h
     unfold pD
     split
     · simp
     · split
       · simp
       · rename_i h4
         simp only
         omega
theorem Bh:∀ (n:Nat) (s:Str) (p:Option Nat),s.length≤n→p≠some 13→(dj (fS p (cK s))=s↔isU s=true)
 | n,[],p,_,_=>by simp [cK,fo,fS,dj,isU,Lib.validD,Lib.validGoD]
 | 0,b::t,p,h,_=>by simp at h
 | n + 1,b::t,p,h,hp=>by
   have hor:=fq (b::t)
   have hlen:=hor.2.2.1 (by simp)
   have hd:((b::t).drop (one (b::t)).2).length≤n:=by rw [List.length_drop]; simp at h ⊢; omega
   rw [dW]
   simp only [fS,isU,dW,List.all_cons,Ba]
   rw [if_neg (fun h=>hp h.2)]
   simp only [dj,List.map_append,List.map_cons,List.map_nil,List.flatten_append,List.flatten_cons,List.flatten_nil,List.append_nil]
   by_cases h13:(one (b::t)).1=13
   · have hb:=yn (b:=b) (t:=t) (by omega)
     rw [if_pos h13]
     have e10:bD 10=[10]:=by decide
     rw [h13] at hb
     rw [e10,h13]
     simp
     intro hh
     rw [←hh] at hb
     simp at hb
   · by_cases h00:(one (b::t)).1=0
     · have hb:=yn (b:=b) (t:=t) (by omega)
       rw [if_neg h13,if_pos h00]
       have e:bD 65533=[239,191,189]:=by decide
       rw [h00] at hb
       rw [e,h00]
       simp
       intro hh
       rw [←hh] at hb
       simp at hb
     · rw [if_neg h13,if_neg h00]
       by_cases hbad:(one (b::t)).1=65533∧(one (b::t)).2=1
       · rw [if_pos hbad]
         have e:bD 65533=[239,191,189]:=by decide
         rw [hbad.1,e]
         simp only [Bool.false_and,Bool.false_eq_true,iff_false]
         intro hh
         have:one (b::t)=(65533,3):=by
          rw [←hh,List.cons_append,List.cons_append,List.cons_append,one]
          simp [hdr,goV,follows,pD]
         rw [this] at hbad
         simp at hbad
       · rw [if_neg hbad]
         have hbad':¬((Lib.decodeL (b::t)).1=65533∧(Lib.decodeL (b::t)).2=1):=by rw [←tz]; exact hbad
         have henc:=Lib.encode_decode (b::t) (by simp) hbad'
         rw [←tz,←EY] at henc
         rw [henc]
         have ih:=Bh n ((b::t).drop (one (b::t)).2) (some (one (b::t)).1) hd (by simpa using h13)
         simp only [dj,isU] at ih
         have key:(List.take (one (b::t)).2 (b::t)++(List.map bD (fS (some (one (b::t)).1) (cK (List.drop (one (b::t)).2 (b::t))))).flatten=b::t)↔((List.map bD (fS (some (one (b::t)).1) (cK (List.drop (one (b::t)).2 (b::t))))).flatten=List.drop (one (b::t)).2 (b::t)):=by
          constructor
          · intro hh
            have h2:=hh.trans (List.take_append_drop (one (b::t)).2 (b::t)).symm
            exact List.append_cancel_left h2
          · intro hh
            rw [hh]
            exact List.take_append_drop _ _
         rw [key,ih]
         simp [h13,h00]
theorem Gi (s:Str):right s=isU s:=by
 have:=Bh s.length s none (Nat.le_refl _) (by simp)
 unfold right cq
 rw [Bool.eq_iff_iff,decide_eq_true_iff]
 exact this
theorem J6 (s:Str) (p:Nat) (h:p < s.length):qj s p=one (s.drop p):=by
 have:qj s p=Lib.decodeL (s.drop p):=by
  have:=Lib.decodeL_drop ⟨s.toArray⟩ p
  simpa [qj] using this.symm
 rw [this]
 cases hs:s.drop p with
 | nil=>have:=congrArg List.length hs; simp at this; omega
 | cons b t=>rw [tz]
end Go.Abs.F
end
section
namespace Go.Abs.F
open Go.Proofs
def okR (r:Nat):Prop:=r≤1114111∧¬(55296≤r∧r≤57343)∧r≠0∧r≠13
def Rt (s:Str):Prop:=∃ l:List Nat,(∀ r∈l,okR r)∧s=dj l
theorem DK (r:Nat) (l:List Nat):dj (r::l)=bD r++dj l:=by simp [dj]
theorem zk (a b:List Nat):dj (a++b)=dj a++dj b:=by simp [dj]
theorem Rt.append {a b:Str} (h:Rt a) (h':Rt b):Rt (a++b):=by
 obtain ⟨l,h1,rfl⟩:=h
 obtain ⟨m,h2,rfl⟩:=h'
 exact ⟨l++m,fun r hr=>(List.mem_append.1 hr).elim (h1 r) (h2 r),(zk l m).symm⟩
theorem Hq {r:Nat} (h:r < 128):bD r=[b8 r]:=by
 unfold bD
 simp only
 rw [if_neg (show ¬(1114111 < r∨(55296≤r∧r≤57343)) by omega),if_pos h]
theorem Hr {r:Nat} (h:128≤r):2≤(bD r).length∧∀ b∈bD r,128≤b.toNat:=by
 unfold bD
 simp only
 generalize hv:(if 1114111 < r∨(55296≤r∧r≤57343) then 65533 else r)=v
 have hv1:128≤v∧v≤1114111:=by
  subst hv
  split<;>omega
 rw [if_neg (by omega)]
 split
 · have e1:(b8 (192 + v / 64)).toNat=192 + v / 64:=aV (by omega)
   have e2:(b8 (128 + v % 64)).toNat=128 + v % 64:=aV (by omega)
   refine ⟨by simp,fun b hb=>?_⟩
   simp only [List.mem_cons,List.not_mem_nil,or_false] at hb
   rcases hb with rfl | rfl<;>omega
 · split
   · have e1:(b8 (224 + v / 4096)).toNat=224 + v / 4096:=aV (by omega)
     have e2:(b8 (128 + v / 64 % 64)).toNat=128 + v / 64 % 64:=aV (by omega)
     have e3:(b8 (128 + v % 64)).toNat=128 + v % 64:=aV (by omega)
     refine ⟨by simp,fun b hb=>?_⟩
     simp only [List.mem_cons,List.not_mem_nil,or_false] at hb
     rcases hb with rfl | rfl | rfl<;>omega
   · have e1:(b8 (240 + v / 262144)).toNat=240 + v / 262144:=aV (by omega)
     have e2:(b8 (128 + v / 4096 % 64)).toNat=128 + v / 4096 % 64:=aV (by omega)
     have e3:(b8 (128 + v / 64 % 64)).toNat=128 + v / 64 % 64:=aV (by omega)
     have e4:(b8 (128 + v % 64)).toNat=128 + v % 64:=aV (by omega)
     refine ⟨by simp,fun b hb=>?_⟩
     simp only [List.mem_cons,List.not_mem_nil,or_false] at hb
     rcases hb with rfl | rfl | rfl | rfl<;>omega
theorem EX (r:Nat):0 < (bD r).length:=by
 by_cases h:r < 128
 · rw [Hq h]; simp
 · have:=(Hr (r:=r) (by omega)).1
   omega
theorem fx {n:Nat} {b:UInt8} (h:b.toNat=128 + n) (hn:n < 64):follows b=true:=by simp [follows,h]; omega
theorem DW {r:Nat} (h:okR r) (t:Str):one (bD r++t)=(r,(bD r).length):=by
 obtain ⟨h1,h2,h3,h4⟩:=h
 unfold bD
 simp only
 rw [if_neg (show ¬(1114111 < r∨(55296≤r∧r≤57343)) by omega)]
 by_cases a:r < 128
 · rw [if_pos a]
   simp [one,aV (show r < 256 by omega),a]
 · rw [if_neg a]
   by_cases b:r < 2048
   · rw [if_pos b]
     have e1:(b8 (192 + r / 64)).toNat=192 + r / 64:=aV (by omega)
     have e2:(b8 (128 + r % 64)).toNat=128 + r % 64:=aV (by omega)
     have f2:=fx e2 (by omega)
     have hh:hdr (192 + r / 64)=(2,r / 64,128):=by
      unfold hdr
      rw [if_pos (by omega)]
      simp
     simp only [List.cons_append,List.nil_append,one,e1]
     rw [if_neg (by omega),hh]
     simp only
     rw [if_neg (by simp)]
     have ev:64 * (r / 64) + (128 + r % 64) - 128=r:=by omega
     simp only [List.take_succ_cons,List.take_zero,goV,f2,e2,if_pos,ev,pD]
     rw [if_neg (by omega)]
     simp
   · rw [if_neg b]
     by_cases c:r < 65536
     · rw [if_pos c]
       have e1:(b8 (224 + r / 4096)).toNat=224 + r / 4096:=aV (by omega)
       have e2:(b8 (128 + r / 64 % 64)).toNat=128 + r / 64 % 64:=aV (by omega)
       have e3:(b8 (128 + r % 64)).toNat=128 + r % 64:=aV (by omega)
       have f2:=fx e2 (by omega)
       have f3:=fx e3 (by omega)
       have hh:hdr (224 + r / 4096)=(3,r / 4096,2048):=by
        unfold hdr
        rw [if_neg (by omega),if_pos (by omega)]
        simp
       simp only [List.cons_append,List.nil_append,one,e1]
       rw [if_neg (by omega),hh]
       simp only
       rw [if_neg (by simp)]
       have ev:64 * (64 * (r / 4096) + (128 + r / 64 % 64) - 128) + (128 + r % 64) - 128=r:=by omega
       simp only [List.take_succ_cons,List.take_zero,goV,f2,f3,e2,e3,if_pos,ev,pD]
       rw [if_neg (by omega)]
       simp
     · rw [if_neg c]
       have e1:(b8 (240 + r / 262144)).toNat=240 + r / 262144:=aV (by omega)
       have e2:(b8 (128 + r / 4096 % 64)).toNat=128 + r / 4096 % 64:=aV (by omega)
       have e3:(b8 (128 + r / 64 % 64)).toNat=128 + r / 64 % 64:=aV (by omega)
       have e4:(b8 (128 + r % 64)).toNat=128 + r % 64:=aV (by omega)
       have f2:=fx e2 (by omega)
       have f3:=fx e3 (by omega)
       have f4:=fx e4 (by omega)
       have hh:hdr (240 + r / 262144)=(4,r / 262144,65536):=by
        unfold hdr
        rw [if_neg (by omega),if_neg (by omega),if_pos (by omega)]
        simp
       simp only [List.cons_append,List.nil_append,one,e1]
       rw [if_neg (by omega),hh]
       simp only
       rw [if_neg (by simp)]
       have ev:64 * (64 * (64 * (r / 262144) + (128 + r / 4096 % 64) - 128) + (128 + r / 64 % 64) - 128) + (128 + r % 64) - 128=r:=by omega
       simp only [List.take_succ_cons,List.take_zero,goV,f2,f3,f4,e2,e3,e4,if_pos,ev,pD]
       rw [if_neg (by omega)]
       simp
theorem rQ:∀ l:List Nat,(∀ r∈l,okR r)→cK (dj l)=l
 | [],_=>rfl
 | r::l,h=>by
   have h1:=DW (h r (by simp)) (dj l)
   have h2:=EX r
   have ih:=rQ l (fun x hx=>h x (by simp [hx]))
   rw [DK]
   cases hb:bD r with
   | nil=>rw [hb] at h2; simp at h2
   | cons b t=>
     rw [hb,List.cons_append] at h1
     rw [List.cons_append,dW,h1]
     simp only [List.length_cons,List.drop_succ_cons,List.drop_left,ih]
theorem FE:∀ (l:List Nat) (p:Option Nat),(∀ r∈l,okR r)→p≠some 13→fS p l=l
 | [],_,_,_=>rfl
 | r::l,p,h,hp=>by
   obtain ⟨_,_,h3,h4⟩:=h r (by simp)
   simp only [fS]
   rw [if_neg (fun e=>hp e.2),if_neg h4,if_neg h3,FE l (some r) (fun x hx=>h x (by simp [hx])) (by simpa using h4)]
   rfl
theorem Rt.right {s:Str} (h:Rt s):right s=true:=by
 obtain ⟨l,h,rfl⟩:=h
 simp only [F.right,decide_eq_true_eq,cq,rQ l h,FE l none h (by simp)]
theorem CS:∀ (l:List Nat) (p:Option Nat),(∀ r∈l,r≤1114111∧¬(55296≤r∧r≤57343))→∀ r∈fS p l,okR r
 | [],p,_,r,hr=>by simp [fS] at hr
 | x::l,p,h,r,hr=>by
   simp only [fS,List.mem_append] at hr
   rcases hr with hr | hr
   · have:=h x (by simp)
     split at hr
     · cases hr
     · simp at hr
       subst hr
       unfold okR
       split
       · omega
       · split<;>omega
   · exact CS l _ (fun y hy=>h y (by simp [hy])) r hr
theorem x9 (s:Str):Rt (cq s):=⟨_,CS _ _ (xY s.length s (Nat.le_refl _)),rfl⟩
theorem AX (s:Str):Rt s↔right s=true:=by
 refine ⟨Rt.right,fun h=>?_⟩
 simp only [F.right,decide_eq_true_eq] at h
 rw [←h]
 exact x9 s
end Go.Abs.F
end
section
namespace Go.Abs.F
open Go.Proofs
attribute [-simp] getElem?_pos Option.not_isSome List.map_map
theorem yw {b:Bool} {n:Node} {l:List Node} (h:i4 b (n::l)=0):eE n b=0∧i4 false n.kids=0∧i4 (decide (n.kind=2)) l=0:=by
 simp only [i4,zO] at h
 split at h
 · rename_i h1
   split at h
   · rename_i h2; exact ⟨h1,h2,h⟩
   · rename_i h2; exact (h2 h).elim
 · rename_i h1; exact (h1 h).elim
theorem wu {b:Bool} {n:Node} {l:List Node}:i4 b (n::l)=0↔eE n b=0∧i4 false n.kids=0∧i4 (decide (n.kind=2)) l=0:=by
 refine ⟨yw,fun ⟨h1,h2,h3⟩=>?_⟩
 simp only [i4,zO,h1,h2,h3,if_true]
def ug:Bool→List Node→Prop
 | _,[]=>True
 | b,n::l=>¬(b=true∧n.kind=2)∧ug (decide (n.kind=2)) l
theorem jL (s:Str):right (cq s)=true:=(AX _).1 (x9 s)
theorem Gj {a b:Str} (ha:right a=true) (hb:right b=true):right (a++b)=true:=(AX _).1 (((AX _).2 ha).append ((AX _).2 hb))
theorem I7:I8.all (fun s=>bR s)=true:=by decide +kernel
theorem xK (s:Str):bR (bE s)=true:=by
 unfold bE
 split
 · rename_i h; exact h
 · have hm:s.length % 5 < I8.length:=Nat.mod_lt _ (by decide)
   rw [List.getElem?_eq_getElem hm]
   exact List.all_eq_true.1 I7 _ (List.getElem_mem hm)
theorem I9:Fo.all (fun s=>named s)=true:=by decide
theorem tN (s:Str):named (oW s)=true:=by
 unfold oW
 split
 · rename_i h; exact h
 · have hm:Bi s % 10 < Fo.length:=Nat.mod_lt _ (by decide)
   rw [List.getElem?_eq_getElem hm]
   exact List.all_eq_true.1 I9 _ (List.getElem_mem hm)
theorem JG (l:List Attr) (s:Str):dY l s=(ez l s).isSome:=by
 induction l with
 | nil=>rfl
 | cons a l ih=>by_cases h:a.name=s<;>simp [dY,ez,h,ih]
theorem vg:∀ (l pre:List Attr) (a:Attr),ii pre l=0→bR a.name=true→dY (pre++l) a.name=false→ii pre (l++[a])=0
 | [],pre,a,_,h2,h3=>by
   simp only [List.append_nil] at h3
   simp [ii,h2,h3]
 | x::l,pre,a,h1,h2,h3=>by
   simp only [List.cons_append,ii] at h1 ⊢
   split at h1
   · rename_i hx
     split at h1
     · cases h1
     · rename_i hy
       rw [if_pos hx,if_neg hy]
       exact vg l (pre++[x]) a h1 h2 (by rw [List.append_assoc]; exact h3)
   · cases h1
theorem ng:∀ (l:List Attr) (a:Attr),bS l=true→right a.value=true→bS (l++[a])=true
 | [],a,_,h=>by simp [bS,h]
 | x::l,a,h,h2=>by
   simp only [bS,Bool.and_eq_true] at h
   simp only [List.cons_append,bS,h.1,ng l a h.2 h2,Bool.and_self]
theorem uX:∀ (l acc:List Attr),ii [] acc=0→bS acc=true→ii [] (ic acc l)=0∧bS (ic acc l)=true
 | [],acc,h1,h2=>⟨h1,h2⟩
 | a::l,acc,h1,h2=>by
   simp only [ic]
   split
   · exact uX l acc h1 h2
   · rename_i hn
     refine uX l _ (vg acc [] _ h1 (xK _) ?_) (ng acc _ h2 (jL _))
     rw [List.nil_append,JG]
     simpa using hn
structure PreOK (f:Node→Prop) (n:Node):Prop where
 txt:n.kind=2→n.name=[]∧n.attrs=[]∧n.kids=[]∧right n.text=true
 oth:n.kind≠2→eE n false=0
 kids:i4 false n.kids=0
 own:f n
def vJ (f:Node→Prop) (n:Node):Prop:=eE n false=0∧i4 false n.kids=0∧f n
theorem yo {n:Node} (hk:n.kind=2) (h1:n.name=[]∧n.attrs=[]∧n.kids=[]) (h2:right n.text=true) (h3:n.text≠[]):eE n false=0:=by
 unfold eE
 rw [if_neg (by omega),if_pos (.inl hk),if_pos h1,if_pos ⟨h2,fun _=>⟨h3,rfl⟩⟩]
theorem nj {n:Node} {b:Bool} (hk:n.kind=2) (h:eE n b=0):(n.name=[]∧n.attrs=[]∧n.kids=[])∧right n.text=true∧n.text≠[]:=by
 unfold eE at h
 rw [if_neg (by omega),if_pos (.inl hk)] at h
 split at h
 · rename_i h1
   split at h
   · rename_i h2
     exact ⟨h1,h2.1,(h2.2 hk).1⟩
   · cases h
 · cases h
def q9:Bool→List Node→Bool
 | b,[]=>b
 | _,n::l=>q9 (decide (n.kind=2)) l
theorem qU:∀ (l:List Node) (b:Bool) (n:Node),ug b (l++[n])↔ug b l∧¬(q9 b l=true∧n.kind=2)
 | [],b,n=>by simp [ug,q9]
 | x::l,b,n=>by
   simp only [List.cons_append,ug,q9,qU l]
   exact ⟨fun h=>⟨⟨h.1,h.2.1⟩,h.2.2⟩,fun h=>⟨h.1.1,h.1.2,h.2⟩⟩
theorem r6:∀ (l:List Node) (b:Bool) (n:Node),q9 b (l++[n])=decide (n.kind=2)
 | [],b,n=>rfl
 | x::l,b,n=>by simp only [List.cons_append,q9]; exact r6 l _ n
theorem Ee {l:List Node} {o:Node} (h:l[l.length - 1]?=some o):∃ u,l=u++[o]:=by
 have hlt:=(List.getElem?_eq_some_iff.1 h).1
 have hne:l≠[]:=fun e=>by rw [e] at hlt; simp at hlt
 refine ⟨l.dropLast,?_⟩
 have h6:l.getLast hne=o:=by
  rw [List.getLast_eq_getElem]
  exact (List.getElem?_eq_some_iff.1 h).2
 rw [←h6]
 exact (List.dropLast_concat_getLast hne).symm
theorem hO {f:Node→Prop} (hf:∀ k n a t ks t',k=2→f ⟨k,n,a,t,ks⟩→f ⟨k,n,a,t',ks⟩):∀ (l out:List Node),(∀ n∈out,vJ f n)→ug false out→(∀ n∈l,PreOK f n)→(∀ n∈am out l,vJ f n)∧ug false (am out l)
 | [],out,h1,h2,_=>⟨h1,h2⟩
 | n::l,out,h1,h2,h3=>by
   have hn:=h3 n (by simp)
   have hl:∀ m∈l,PreOK f m:=fun m hm=>h3 m (by simp [hm])
   simp only [am]
   split
   · exact hO hf l out h1 h2 hl
   · rename_i hne
     have hpost:vJ f n:=by
      refine ⟨?_,hn.kids,hn.own⟩
      by_cases hk:n.kind=2
      · obtain ⟨a,b,c,d⟩:=hn.txt hk
        exact yo hk ⟨a,b,c⟩ d fun e=>hne ⟨hk,e⟩
      · exact hn.oth hk
     split
     · rename_i o ho
       obtain ⟨u,hu⟩:=Ee ho
       split
       · rename_i hk
         have hop:=h1 o (List.mem_of_getElem? ho)
         obtain ⟨a,b,c⟩:=nj hk.2 hop.1
         obtain ⟨a2,b2,c2,d2⟩:=hn.txt hk.1
         have hset:out.set (out.length - 1) ⟨o.kind,o.name,o.attrs,o.text++n.text,o.kids⟩=u++[⟨o.kind,o.name,o.attrs,o.text++n.text,o.kids⟩]:=by
          rw [hu]
          simp
         rw [hset]
         rw [hu] at h1 h2
         refine hO hf l _ (fun m hm=>?_) ?_ hl
         · rcases List.mem_append.1 hm with hm | hm
           · exact h1 m (by simp [hm])
           · simp only [List.mem_cons,List.not_mem_nil,or_false] at hm
             subst hm
             refine ⟨yo hk.2 a (Gj b d2) (by simp [c]),hop.2.1,?_⟩
             have key:∀ o:Node,o.kind=2→f o→∀ t,f ⟨o.kind,o.name,o.attrs,t,o.kids⟩:=fun o hk h t=>by
              cases o
              exact hf _ _ _ _ _ _ hk h
             exact key o hk.2 hop.2.2 _
         · rw [qU] at h2 ⊢
           exact h2
       · rename_i hk
         refine hO hf l _ (fun m hm=>?_) ?_ hl
         · rcases List.mem_append.1 hm with hm | hm
           · exact h1 m hm
           · simp only [List.mem_cons,List.not_mem_nil,or_false] at hm
             subst hm; exact hpost
         · rw [qU]
           refine ⟨h2,fun hc=>hk ⟨hc.2,?_⟩⟩
           have:=hc.1
           rw [hu,r6] at this
           exact of_decide_eq_true this
     · rename_i ho
       have hout:out=[]:=by
        cases out with
        | nil=>rfl
        | cons x r=>simp at ho
       subst hout
       refine hO hf l _ (fun m hm=>?_) (by simp [ug]) hl
       simp only [List.nil_append,List.mem_cons,List.not_mem_nil,or_false] at hm
       subst hm; exact hpost
theorem B1 {f:Node→Prop} (hf:∀ k n a t ks t',k=2→f ⟨k,n,a,t,ks⟩→f ⟨k,n,a,t',ks⟩) (l:List Node) (h:∀ n∈l,PreOK f n):(∀ n∈aZ l,vJ f n)∧ug false (aZ l):=
 hO hf l [] (fun n hn=>by cases hn) trivial h
theorem Je {n:Node} {b:Bool} (h:eE n false=0) (hb:¬(b=true∧n.kind=2)):eE n b=0:=by
 by_cases hk:n.kind=2
 · have:b=false:=by cases b; rfl; exact absurd ⟨rfl,hk⟩ hb
   rw [this]; exact h
 · unfold eE at h ⊢
   by_cases h1:n.kind=1
   · rw [if_pos h1] at h ⊢; exact h
   · rw [if_neg h1] at h ⊢
     split at h
     · rename_i h2
       rw [if_pos h2]
       split at h
       · rename_i h3
         rw [if_pos h3]
         split at h
         · rename_i h4
           rw [if_pos ⟨h4.1,fun hk'=>absurd hk' hk⟩]
         · cases h
       · cases h
     · cases h
theorem zN:∀ (l:List Node) (b:Bool),(∀ n∈l,eE n false=0∧i4 false n.kids=0)→ug b l→i4 b l=0
 | [],b,_,_=>rfl
 | n::l,b,h,hj=>by
   rw [wu]
   obtain ⟨h1,h2⟩:=h n (by simp)
   exact ⟨Je h1 hj.1,h2,zN l _ (fun m hm=>h m (by simp [hm])) hj.2⟩
theorem B9 (k:Int):kw k=1∨kw k=2∨kw k=3:=by
 unfold kw; split<;>omega
theorem GW:∀ l:List Node,∀ n∈l,PreOK (fun _=>True) (bG n):=by
 refine ay (fun n h=>by cases h) ?_
 intro n l h1 h2 x hx
 rcases List.mem_cons.1 hx with rfl | hx
 · rw [fR]
   have hm:=B1 (f:=fun _=>True) (fun _ _ _ _ _ _ _ _=>trivial) (x.kids.map bG) fun m hm=>by
    obtain ⟨y,hy,rfl⟩:=List.mem_map.1 hm
    exact h1 y hy
   by_cases hk:kw x.kind=1
   · rw [if_pos hk]
     obtain ⟨g1,g2⟩:=uX x.attrs [] rfl rfl
     refine ⟨fun h=>by simp at h,fun _=>?_,zN _ _ (fun n hn=>⟨(hm.1 n hn).1,(hm.1 n hn).2.1⟩) hm.2,trivial⟩
     simp [eE,jy,tN,g1,g2]
   · rw [if_neg hk]
     refine ⟨fun _=>⟨rfl,rfl,rfl,jL _⟩,fun h=>?_,rfl,trivial⟩
     have h3:kw x.kind=3:=by
      rcases B9 x.kind with h4 | h4 | h4
      · exact absurd h4 hk
      · exact absurd h4 h
      · exact h4
     simp [eE,h3,jL]
 · exact h2 x hx
theorem lS (l:List Node):(∀ n∈eU l,vJ (fun _=>True) n)∧ug false (eU l):=by
 unfold eU
 exact B1 (fun _ _ _ _ _ _ _ _=>trivial) _ fun m hm=>by
  obtain ⟨y,hy,rfl⟩:=List.mem_map.1 hm
  exact GW _ y hy
theorem Ey (l:List Node):i4 false (eU l)=0:=zN _ _ (fun n hn=>⟨((lS l).1 n hn).1,((lS l).1 n hn).2.1⟩) (lS l).2
theorem yL {par:Str} {n m:Node} (hr:raw par=false) (hk:m.kind=n.kind) (hn:m.name=n.name):c7 par m=c7 par n:=by
 simp [c7,hr,hk,hn]
end Go.Abs.F
end
