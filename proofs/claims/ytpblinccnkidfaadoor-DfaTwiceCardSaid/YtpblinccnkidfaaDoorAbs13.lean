/-
  What 'simp' is told of the abstract machine: it goes through code step by step, and looks at nothing that lies ahead. No condition.
-/
import Derived.Test.YtpblinccnkidfaaDoorAbs12
set_option linter.unusedVariables false
namespace Go.Abs

def oM {α : Type} (x : Option α) (k : α → Prop) : Prop := match x with
  | some v => k v
  | none => False
def oN {α : Type} (x : Option α) (k : α → Prop) (e : Prop) : Prop := match x with
  | some v => k v
  | none => e
theorem oN_some {α : Type} {v : α} {k : α → Prop} {e : Prop} : oN (some v) k e = k v := propext Iff.rfl
theorem oN_none {α : Type} {k : α → Prop} {e : Prop} : oN none k e = e := propext Iff.rfl
/-- Two ways on from a state, and one that asks for something. -/
def BrK (t : Bool) (A B : St → Prop) (σ : St) : Prop := Br t (A σ) (B σ)
def rqK (p : Prop) (K : St → Prop) (σ : St) : Prop := p ∧ K σ
def cM (x : Option V) (A B : St → Prop) (σ : St) : Prop := match x with
  | some (.bool t) => Br t (A σ) (B σ)
  | _ => False
def gM (x : Option V) (b : Bool) (A B : St → Prop) (σ : St) : Prop := match x with
  | some (.bool y) => if b = true then Br y (A σ) (B σ) else Br y (B σ) (A σ)
  | some (.tup []) => B σ
  | _ => False
def clsK (Q : Ex → St → Prop) (ks : List Nat) (σ : St) : Prop := Q .norm { σ with r := pk σ.r ks }
def skK (d : Option Nat) (K : St → Prop) (σ : St) : Prop := K (σ.put d (.tup []))
def putK (σ : St) (d : Option Nat) (K : St → Prop) (v : V) : Prop := K (σ.put d v)
theorem BrK.mk {t : Bool} {A B : St → Prop} {σ : St} (h : t = true → A σ) (h' : t = false → B σ) : BrK t A B σ := ⟨h, h'⟩
theorem BrK_true {A B : St → Prop} {σ : St} : BrK true A B σ = A σ := by simp [BrK, Br]
theorem BrK_false {A B : St → Prop} {σ : St} : BrK false A B σ = B σ := by simp [BrK, Br]
theorem BrKd.mk {p : Prop} [Decidable p] {A B : St → Prop} {σ : St} (h : p → A σ) (h' : ¬p → B σ) : BrK (decide p) A B σ := ⟨fun e => h (of_decide_eq_true e), fun e => h' (of_decide_eq_false e)⟩
theorem BrKe.mk {p : Prop} [Decidable p] {A B : St → Prop} {σ : St} (h : p → A σ) (h' : ¬p → B σ) : BrK (!decide p) B A σ := ⟨fun e => h' (by simpa using e), fun e => h (by simpa using e)⟩
theorem BrK_t {p : Prop} [Decidable p] {A B : St → Prop} {σ : St} (h : p) : BrK (decide p) A B σ = A σ := by rw [decide_eq_true h]; exact BrK_true
theorem BrK_f {p : Prop} [Decidable p] {A B : St → Prop} {σ : St} (h : ¬p) : BrK (decide p) A B σ = B σ := by rw [decide_eq_false h]; exact BrK_false
theorem BrK_n {b : Bool} {A B : St → Prop} {σ : St} : BrK (!b) A B σ = BrK b B A σ := by cases b <;> simp [BrK, Br]
theorem rqK_t {p : Prop} {K : St → Prop} {σ : St} (h : p) : rqK p K σ = K σ := by simp [rqK, h]
theorem rqK.mk {p : Prop} {K : St → Prop} {σ : St} (h : p) (h' : K σ) : rqK p K σ := ⟨h, h'⟩
theorem rqK_true {K : St → Prop} {σ : St} : rqK True K σ = K σ := by simp [rqK]
theorem oM_some {α : Type} {v : α} {k : α → Prop} : oM (some v) k = k v := propext Iff.rfl
theorem oM_none {α : Type} {k : α → Prop} : oM none k = False := propext Iff.rfl
theorem cM_bool {t : Bool} {A B : St → Prop} {σ : St} : cM (some (.bool t)) A B σ = BrK t A B σ := propext Iff.rfl
theorem gM_true {y : Bool} {A B : St → Prop} {σ : St} : gM (some (.bool y)) true A B σ = BrK y A B σ := propext Iff.rfl
theorem gM_false {y : Bool} {A B : St → Prop} {σ : St} : gM (some (.bool y)) false A B σ = BrK y B A σ := propext Iff.rfl
theorem gM_tup {b : Bool} {A B : St → Prop} {σ : St} : gM (some (.tup [])) b A B σ = B σ := by cases b <;> rfl
section
variable {Φ : Ctr} {Q : Ex → St → Prop} {σ : St} {K : St → Prop} {d : Option Nat}
theorem clsK_app {ks : List Nat} : clsK Q ks σ = Q .norm { σ with r := pk σ.r ks } := propext Iff.rfl
theorem skK_app : skK d K σ = K (σ.put d (.tup [])) := propext Iff.rfl
theorem putK_app {v : V} : putK σ d K v = K (σ.put d v) := propext Iff.rfl
theorem W_reg' {ops ks} : W Φ (.reg ops ks) Q σ = wops Φ ops (clsK Q ks) σ := propext Iff.rfl
theorem W_regD' {ops ks} : W Φ (.regD ops ks) Q σ = wopsD Φ ops (clsK Q ks) σ := propext Iff.rfl
theorem W_regE' {alts ks} : W Φ (.regE alts ks) Q σ = wall Φ alts (clsK Q ks) σ := propext Iff.rfl
theorem W_cond' {c : AO} {a b : AC} : W Φ (.cond c a b) Q σ = cM (σ.ev c) (W Φ a Q) (W Φ b Q) σ := propext Iff.rfl
theorem W_seq' {a b : AC} : W Φ (.seq a b) Q σ = W Φ a (Ex.then (W Φ b Q) Q) σ := propext Iff.rfl
theorem wops_nil : wops Φ [] K σ = K σ := propext Iff.rfl
theorem wops_cons {o : AOp} {os : List AOp} : wops Φ (o :: os) K σ = wop Φ o (wops Φ os K) σ := propext Iff.rfl
theorem wop_n {d : Option Nat} {a : Act'} : wop Φ ⟨d, a, none⟩ K σ = wact Φ d a K σ := propext Iff.rfl
theorem wop_g {d : Option Nat} {a : Act'} {t : Nat} {b : Bool} : wop Φ ⟨d, a, some (t, b)⟩ K σ = gM (lk σ.r t) b (wact Φ d a K) (skK d K) σ := by
  simp only [wop, gM]
  split <;> rename_i heq <;> simp only [heq] <;> rfl
theorem wopsD_nil : wopsD Φ [] K σ = K σ := propext Iff.rfl
theorem wopsD_cons {o : AOp} {os : List AOp} : wopsD Φ (o :: os) K σ = wopD Φ o (wopsD Φ os K) σ := propext Iff.rfl
theorem wopD_n {d : Option Nat} {a : Act'} : wopD Φ ⟨d, a, none⟩ K σ = wactD Φ d a K σ := propext Iff.rfl
theorem wopD_g {d : Option Nat} {a : Act'} {t : Nat} {b : Bool} : wopD Φ ⟨d, a, some (t, b)⟩ K σ = gM (lk σ.r t) b (wactD Φ d a K) (skK d K) σ := by
  simp only [wopD, gM]
  split <;> rename_i heq <;> simp only [heq] <;> rfl
theorem wtree_nil : wtree Φ .nil K σ = K σ := propext Iff.rfl
theorem wtree_op {x : AOp} {t : OT} : wtree Φ (.op x t) K σ = wopD Φ x (wtree Φ t K) σ := propext Iff.rfl
def wbothK (Φ : Ctr) (a b : OT) (K : St → Prop) (σ : St) : Prop := wtree Φ a K σ ∧ wtree Φ b K σ
theorem wtree_both {a b : OT} : wtree Φ (.both a b) K σ = wbothK Φ a b K σ := propext Iff.rfl
theorem wbothK.mk {a b : OT} (h : wtree Φ a K σ) (h' : wtree Φ b K σ) : wbothK Φ a b K σ := ⟨h, h'⟩
def nrmK (Q : Ex → St → Prop) (ks : List Nat) (σ : St) : Prop := Q .norm (σ.nrm ks)
theorem nrmK_app {ks : List Nat} : nrmK Q ks σ = Q .norm (σ.nrm ks) := propext Iff.rfl
theorem W_regF' {t ks} : W Φ (.regF t ks) Q σ = wtree Φ t (nrmK Q ks) σ := propext Iff.rfl
theorem wall_nil : wall Φ [] K σ = True := propext Iff.rfl
def wallK (Φ : Ctr) (o : List AOp) (os : List (List AOp)) (K : St → Prop) (σ : St) : Prop := wops Φ o K σ ∧ wall Φ os K σ
theorem wall_cons {o : List AOp} {os : List (List AOp)} : wall Φ (o :: os) K σ = wallK Φ o os K σ := propext Iff.rfl
theorem wallK.mk {o : List AOp} {os : List (List AOp)} (h : wops Φ o K σ) (h' : wall Φ os K σ) : wallK Φ o os K σ := ⟨h, h'⟩

def isVal : Act' → Bool
  | .s2b _ => false
  | .lit _ _ _ => false
  | .ltr _ _ _ => false
  | .alc _ => false
  | .box _ => false
  | .st _ _ _ => false
  | .app _ _ _ _ _ => false
  | .mks _ _ _ _ _ => false
  | .mkm _ _ _ _ _ => false
  | .call _ _ => false
  | .callv _ _ => false
  | .callH _ _ => false
  | .mkp _ => false
  | .mup _ _ _ _ => false
  | .inv _ _ _ => false
  | .trc _ _ _ => false
  | _ => true
theorem a_val {a : Act'} (h : isVal a = true) : wact Φ d a K σ = oM (σ.val a) (putK σ d K) := by
  cases a <;> first | (exfalso; revert h; simp only [isVal]; decide) | skip
  all_goals
    simp only [wact, oM]
    split <;> rename_i heq <;> simp only [heq] <;> rfl
theorem a_mov {x} : wact Φ d (.mov x) K σ = oM (σ.val (.mov x)) (putK σ d K) := a_val rfl
theorem aD_mov {x} : wactD Φ d (.mov x) K σ = wact Φ d (.mov x) K σ := propext Iff.rfl
theorem a_pick {x y z} : wact Φ d (.pick x y z) K σ = oM (σ.val (.pick x y z)) (putK σ d K) := a_val rfl
theorem aD_pick {x y z} : wactD Φ d (.pick x y z) K σ = wact Φ d (.pick x y z) K σ := propext Iff.rfl
theorem a_fld {x y z w} : wact Φ d (.fld x y z w) K σ = oM (σ.val (.fld x y z w)) (putK σ d K) := a_val rfl
theorem aD_fld {x y z w} : wactD Φ d (.fld x y z w) K σ = wact Φ d (.fld x y z w) K σ := propext Iff.rfl
theorem a_fa {x y} : wact Φ d (.fa x y) K σ = oM (σ.val (.fa x y)) (putK σ d K) := a_val rfl
theorem aD_fa {x y} : wactD Φ d (.fa x y) K σ = wact Φ d (.fa x y) K σ := propext Iff.rfl
theorem a_ia {x y z} : wact Φ d (.ia x y z) K σ = oM (σ.val (.ia x y z)) (putK σ d K) := a_val rfl
theorem aD_ia {x y z} : wactD Φ d (.ia x y z) K σ = wact Φ d (.ia x y z) K σ := propext Iff.rfl
theorem a_iaa {x y z w} : wact Φ d (.iaa x y z w) K σ = oM (σ.val (.iaa x y z w)) (putK σ d K) := a_val rfl
theorem aD_iaa {x y z w} : wactD Φ d (.iaa x y z w) K σ = wact Φ d (.iaa x y z w) K σ := propext Iff.rfl
theorem a_ld {x y z} : wact Φ d (.ld x y z) K σ = oM (σ.val (.ld x y z)) (putK σ d K) := a_val rfl
theorem aD_ld {x y z} : wactD Φ d (.ld x y z) K σ = wact Φ d (.ld x y z) K σ := propext Iff.rfl
theorem a_ixs {x y} : wact Φ d (.ixs x y) K σ = oM (σ.val (.ixs x y)) (putK σ d K) := a_val rfl
theorem aD_ixs {x y} : wactD Φ d (.ixs x y) K σ = wact Φ d (.ixs x y) K σ := propext Iff.rfl
theorem a_ixa {x y z w u} : wact Φ d (.ixa x y z w u) K σ = oM (σ.val (.ixa x y z w u)) (putK σ d K) := a_val rfl
theorem aD_ixa {x y z w u} : wactD Φ d (.ixa x y z w u) K σ = wact Φ d (.ixa x y z w u) K σ := propext Iff.rfl
theorem a_bin {x y z} : wact Φ d (.bin x y z) K σ = oM (σ.val (.bin x y z)) (putK σ d K) := a_val rfl
theorem aD_bin {x y z} : wactD Φ d (.bin x y z) K σ = wact Φ d (.bin x y z) K σ := propext Iff.rfl
theorem a_un {x y} : wact Φ d (.un x y) K σ = oM (σ.val (.un x y)) (putK σ d K) := a_val rfl
theorem aD_un {x y} : wactD Φ d (.un x y) K σ = wact Φ d (.un x y) K σ := propext Iff.rfl
theorem a_cii {x y} : wact Φ d (.cii x y) K σ = oM (σ.val (.cii x y)) (putK σ d K) := a_val rfl
theorem aD_cii {x y} : wactD Φ d (.cii x y) K σ = wact Φ d (.cii x y) K σ := propext Iff.rfl
theorem a_b2s {x} : wact Φ d (.b2s x) K σ = oM (σ.val (.b2s x)) (putK σ d K) := a_val rfl
theorem aD_b2s {x} : wactD Φ d (.b2s x) K σ = wact Φ d (.b2s x) K σ := propext Iff.rfl
theorem a_sls {x y z} : wact Φ d (.sls x y z) K σ = oM (σ.val (.sls x y z)) (putK σ d K) := a_val rfl
theorem aD_sls {x y z} : wactD Φ d (.sls x y z) K σ = wact Φ d (.sls x y z) K σ := propext Iff.rfl
theorem a_slq {x y z w} : wact Φ d (.slq x y z w) K σ = oM (σ.val (.slq x y z w)) (putK σ d K) := a_val rfl
theorem aD_slq {x y z w} : wactD Φ d (.slq x y z w) K σ = wact Φ d (.slq x y z w) K σ := propext Iff.rfl
theorem a_lens {x} : wact Φ d (.lens x) K σ = oM (σ.val (.lens x)) (putK σ d K) := a_val rfl
theorem aD_lens {x} : wactD Φ d (.lens x) K σ = wact Φ d (.lens x) K σ := propext Iff.rfl
theorem a_lenq {x} : wact Φ d (.lenq x) K σ = oM (σ.val (.lenq x)) (putK σ d K) := a_val rfl
theorem aD_lenq {x} : wactD Φ d (.lenq x) K σ = wact Φ d (.lenq x) K σ := propext Iff.rfl
theorem a_beq {x y z} : wact Φ d (.beq x y z) K σ = oM (σ.val (.beq x y z)) (putK σ d K) := a_val rfl
theorem aD_beq {x y z} : wactD Φ d (.beq x y z) K σ = wact Φ d (.beq x y z) K σ := propext Iff.rfl
theorem a_ext {x y} : wact Φ d (.ext x y) K σ = oM (σ.val (.ext x y)) (putK σ d K) := a_val rfl
theorem aD_ext {x y} : wactD Φ d (.ext x y) K σ = wact Φ d (.ext x y) K σ := propext Iff.rfl
theorem a_bld {x y} : wact Φ d (.bld x y) K σ = oM (σ.val (.bld x y)) (putK σ d K) := a_val rfl
theorem aD_bld {x y} : wactD Φ d (.bld x y) K σ = wact Φ d (.bld x y) K σ := propext Iff.rfl
theorem a_mkf {x y z} : wact Φ d (.mkf x y z) K σ = oM (σ.val (.mkf x y z)) (putK σ d K) := a_val rfl
theorem aD_mkf {x y z} : wactD Φ d (.mkf x y z) K σ = wact Φ d (.mkf x y z) K σ := propext Iff.rfl
theorem a_nlc {x} : wact Φ d (.nlc x) K σ = oM (σ.val (.nlc x)) (putK σ d K) := a_val rfl
theorem aD_nlc {x} : wactD Φ d (.nlc x) K σ = wact Φ d (.nlc x) K σ := propext Iff.rfl
theorem a_mki {x y} : wact Φ d (.mki x y) K σ = oM (σ.val (.mki x y)) (putK σ d K) := a_val rfl
theorem aD_mki {x y} : wactD Φ d (.mki x y) K σ = wact Φ d (.mki x y) K σ := propext Iff.rfl
theorem a_aeq {x y z w} : wact Φ d (.aeq x y z w) K σ = oM (σ.val (.aeq x y z w)) (putK σ d K) := a_val rfl
theorem aD_aeq {x y z w} : wactD Φ d (.aeq x y z w) K σ = wact Φ d (.aeq x y z w) K σ := propext Iff.rfl
theorem a_lkp {x y z w u} : wact Φ d (.lkp x y z w u) K σ = oM (σ.val (.lkp x y z w u)) (putK σ d K) := a_val rfl
theorem aD_lkp {x y z w u} : wactD Φ d (.lkp x y z w u) K σ = wact Φ d (.lkp x y z w u) K σ := propext Iff.rfl
theorem a_mm {x y z} : wact Φ d (.mm x y z) K σ = oM (σ.val (.mm x y z)) (putK σ d K) := a_val rfl
theorem aD_mm {x y z} : wactD Φ d (.mm x y z) K σ = wact Φ d (.mm x y z) K σ := propext Iff.rfl
theorem a_nlq {x y z} : wact Φ d (.nlq x y z) K σ = oM (σ.val (.nlq x y z)) (putK σ d K) := a_val rfl
theorem aD_nlq {x y z} : wactD Φ d (.nlq x y z) K σ = wact Φ d (.nlq x y z) K σ := propext Iff.rfl
theorem aD_alc {x} : wactD Φ d (.alc x) K σ = wact Φ d (.alc x) K σ := propext Iff.rfl
theorem aD_box {x} : wactD Φ d (.box x) K σ = wact Φ d (.box x) K σ := propext Iff.rfl
theorem aD_st {x y z} : wactD Φ d (.st x y z) K σ = wact Φ d (.st x y z) K σ := propext Iff.rfl
theorem aD_app {x y z w u} : wactD Φ d (.app x y z w u) K σ = wact Φ d (.app x y z w u) K σ := propext Iff.rfl
theorem aD_mks {x y z w u} : wactD Φ d (.mks x y z w u) K σ = wact Φ d (.mks x y z w u) K σ := propext Iff.rfl
theorem aD_mkm {x y z w u} : wactD Φ d (.mkm x y z w u) K σ = wact Φ d (.mkm x y z w u) K σ := propext Iff.rfl
theorem aD_s2b {x} : wactD Φ d (.s2b x) K σ = wact Φ d (.s2b x) K σ := propext Iff.rfl
theorem a_alc {z} : wact Φ d (.alc z) K σ = K ({ σ with h := σ.h ++ [some (Ob.box z)] }.put d (.ptr σ.h.length 0)) := propext Iff.rfl
def boxV (σ : St) (x : AO) : Option (List V) := match σ.ev x with
  | some v => if nt v = true then some (cl v) else none
  | none => none
def boxK (σ : St) (d : Option Nat) (K : St → Prop) (cs : List V) : Prop := K ({ σ with h := σ.h ++ [some (Ob.box cs)] }.put d (.ptr σ.h.length 0))
theorem boxK_app {cs : List V} : boxK σ d K cs = K ({ σ with h := σ.h ++ [some (Ob.box cs)] }.put d (.ptr σ.h.length 0)) := propext Iff.rfl
theorem a_box {x} : wact Φ d (.box x) K σ = oM (boxV σ x) (boxK σ d K) := by
  simp only [wact, boxV]
  cases σ.ev x with
  | none => rfl
  | some v => simp only; split <;> rfl
def stV (σ : St) (n : Nat) (p x : AO) : Option St := match σ.ev p, σ.ev x with
  | some a, some v => if nt v = true then σ.stor n a (cl v) else none
  | _, _ => none
theorem a_st {n p x} : wact Φ d (.st n p x) K σ = oM (stV σ n p x) (skK d K) := by
  simp only [wact, stV]
  cases σ.ev p with
  | none => rfl
  | some a => cases σ.ev x with
    | none => rfl
    | some v =>
      simp only
      split
      · cases σ.stor n a (cl v) <;> rfl
      · rfl
def strV (σ : St) (x : AO) : Option (List UInt8) := match σ.ev x with
  | some (.str s) => some s
  | _ => none
def s2bK (σ : St) (d : Option Nat) (K : St → Prop) (s : List UInt8) : Prop := rqK (s.length ≤ 140737488355328) K (σ.put d (.seq 1 (bytesV s)))
theorem s2bK_app {s : List UInt8} : s2bK σ d K s = rqK (s.length ≤ 140737488355328) K (σ.put d (.seq 1 (bytesV s))) := propext Iff.rfl
theorem a_s2b {x} : wact Φ d (.s2b x) K σ = oM (strV σ x) (s2bK σ d K) := by
  simp only [wact, strV, oM]
  cases σ.ev x with
  | none => rfl
  | some v => cases v <;> rfl
def litK (σ : St) (d : Option Nat) (sz : Nat) (K : St → Prop) (vs us : List V) : Prop := rqK (sameLen sz us = true ∧ us.length ≤ 16777216) K ((σ.kill (vidss vs)).put d (.seq sz us))
theorem litK_app {sz : Nat} {vs us : List V} : litK σ d sz K vs us = rqK (sameLen sz us = true ∧ us.length ≤ 16777216) K ((σ.kill (vidss vs)).put d (.seq sz us)) := propext Iff.rfl
def litKK (σ : St) (d : Option Nat) (sz : Nat) (K : St → Prop) (vs : List V) : Prop := oM (purs σ.h vs) (litK σ d sz K vs)
theorem litKK_app {sz : Nat} {vs : List V} : litKK σ d sz K vs = oM (purs σ.h vs) (litK σ d sz K vs) := propext Iff.rfl
theorem a_lit {e sz xs} : wact Φ d (.lit e sz xs) K σ = oM (σ.evs xs) (litKK σ d sz K) := by
  simp only [wact, oM]
  cases σ.evs xs with
  | none => rfl
  | some vs =>
    simp only [litKK, oM]
    cases purs σ.h vs with
    | none => rfl
    | some us => simp only [litK, rqK, and_assoc]
def litDK (σ : St) (d : Option Nat) (sz : Nat) (K : St → Prop) (us : List V) : Prop := rqK (sameLen sz us = true ∧ us.length ≤ 16777216) K (σ.put d (.seq sz us))
theorem litDK_app {sz : Nat} {us : List V} : litDK σ d sz K us = rqK (sameLen sz us = true ∧ us.length ≤ 16777216) K (σ.put d (.seq sz us)) := propext Iff.rfl
def litDKK (σ : St) (d : Option Nat) (sz : Nat) (K : St → Prop) (vs : List V) : Prop := oM (purs [] vs) (litDK σ d sz K)
theorem litDKK_app {sz : Nat} {vs : List V} : litDKK σ d sz K vs = oM (purs [] vs) (litDK σ d sz K) := propext Iff.rfl
theorem aD_lit {e sz xs} : wactD Φ d (.lit e sz xs) K σ = oM (σ.evs xs) (litDKK σ d sz K) := by
  simp only [wactD, oM]
  cases σ.evs xs with
  | none => rfl
  | some vs =>
    simp only [litDKK, oM]
    cases purs [] vs with
    | none => rfl
    | some us => simp only [litDK, rqK, and_assoc]
def appV (σ : St) (x y : AO) (e sz by' : Nat) : Option (St × V × Nat) := match σ.ev x, σ.ev y with
    | some u, some v => match src σ.h v with
      | some (.seq sz' l) => if sz' = sz then
        (match u with
        | .nil _ => some ({ σ with h := σ.h ++ [some (Ob.arr e sz l)] }, .ref σ.h.length l.length, l.length * by')
        | .ref id n => match σ.arr? id with
          | some (e', sz', l0) => if e' = e ∧ sz' = sz ∧ n = l0.length then
            some ({ σ with h := σ.h.set id (some (Ob.arr e sz (l0 ++ l))) }, .ref id (n + l.length), (n + l.length) * by') else none
          | none => none
        | .mref id i n => match σ.rws? id with
          | some (e1, e2, sz2, rows) => match rowAt rows i with
            | some r => if e2 = e ∧ sz2 = sz ∧ n = r.length then
              some ({ σ with h := σ.h.set id (some (Ob.mat e1 e2 sz2 (rows.set i none))) ++ [some (Ob.arr e sz (r ++ l))] }, .ref σ.h.length (n + l.length), (n + l.length) * by') else none
            | none => none
          | none => none
        | _ => none) else none
      | _ => none
    | _, _ => none
def appK (d : Option Nat) (K : St → Prop) (p : St × V × Nat) : Prop := rqK (p.2.2 ≤ 140737488355328) K (p.1.put d p.2.1)
theorem appK_app {τ : St} {v : V} {n : Nat} : appK d K (τ, v, n) = rqK (n ≤ 140737488355328) K (τ.put d v) := propext Iff.rfl
theorem a_app1 {x y e sz by'} (h : oM (appV σ x y e sz by') (appK d K)) : wact Φ d (.app x y e sz by') K σ := by
  simp only [wact, appV] at h ⊢
  cases hx : σ.ev x with
  | none => simp only [hx] at h; exact h
  | some u => cases hy : σ.ev y with
    | none => simp only [hx, hy] at h; exact h
    | some v =>
      simp only [hx, hy] at h ⊢
      cases hp : src σ.h v with
      | none => simp only [hp] at h; exact h
      | some w =>
        cases w <;> simp only [hp] at h <;> try exact h
        rename_i sz' l
        split at h
        · rename_i hs
          refine ⟨hs, ?_⟩
          cases u <;> simp only at h <;> try exact h
          · rename_i id n
            cases ha : σ.arr? id with
            | none => simp only [ha] at h; exact False.elim h
            | some p =>
              obtain ⟨e', sz2, l0⟩ := p
              simp only [ha] at h ⊢
              split at h
              · rename_i hc; exact ⟨hc.1, hc.2.1, hc.2.2, h.1, h.2⟩
              · exact h.elim
          · rename_i id i n
            cases ha : σ.rws? id with
            | none => simp only [ha] at h; exact False.elim h
            | some p =>
              obtain ⟨e', e2', sz2, rows⟩ := p
              simp only [ha] at h ⊢
              cases hr : rowAt rows i with
              | none => simp only [hr] at h; exact False.elim h
              | some r =>
                simp only [hr] at h ⊢
                split at h
                · rename_i hc; exact ⟨hc.1, hc.2.1, hc.2.2, h.1, h.2⟩
                · exact h.elim
        · exact h.elim
theorem a_app {x y e sz by'} : wact Φ d (.app x y e sz by') K σ = oM (appV σ x y e sz by') (appK d K) := by
  refine propext ⟨fun h => ?_, a_app1⟩
  simp only [wact] at h
  split at h
  · rename_i u v hu hv
    split at h
    · rename_i sz' l hl
      obtain ⟨h0, h⟩ := h
      subst h0
      split at h
      · simp only [appV, hu, hv, hl]; exact h
      · rename_i id n
        split at h
        · rename_i e' sz2 l0 ha
          obtain ⟨h1, h2, h3, h4, h5⟩ := h
          simp only [appV, hu, hv, hl, ha, h1, h2, h3, and_self, if_true]
          exact ⟨by rw [h3] at h4; exact h4, by rw [h3] at h5; exact h5⟩
        · exact h.elim
      · rename_i id i n
        split at h
        · rename_i e1 e2 sz2 rows ha
          split at h
          · rename_i r hr
            obtain ⟨rfl, rfl, rfl, h4, h5⟩ := h
            simp only [appV, hu, hv, hl, ha, hr, and_self, if_true]
            exact ⟨h4, h5⟩
          · exact h.elim
        · exact h.elim
      · exact h.elim
    · exact h.elim
  · exact h.elim
def mksV (σ : St) (n : AO) : Option Int := match σ.ev n with
  | some (.int _ m) => some m
  | _ => none
def mksK (σ : St) (d : Option Nat) (e sz by' : Nat) (z : V) (K : St → Prop) (m : Int) : Prop :=
  rqK (0 ≤ m ∧ m * by' ≤ 140737488355328) K ({ σ with h := σ.h ++ [some (Ob.arr e sz (List.replicate m.toNat z))] }.put d (.ref σ.h.length m.toNat))
theorem mksK_app {e sz by' z} {m : Int} : mksK σ d e sz by' z K m =
  rqK (0 ≤ m ∧ m * by' ≤ 140737488355328) K ({ σ with h := σ.h ++ [some (Ob.arr e sz (List.replicate m.toNat z))] }.put d (.ref σ.h.length m.toNat)) := propext Iff.rfl
theorem a_mks {e sz by' z n} : wact Φ d (.mks e sz by' z n) K σ = oM (mksV σ n) (mksK σ d e sz by' z K) := by
  simp only [wact, mksV, oM]
  cases σ.ev n with
  | none => rfl
  | some v => cases v <;> first | rfl | simp only [mksK, rqK, and_assoc]
/-- Rows, none of which has been taken out. -/
def sm (l : List (List V)) : List (Option (List V)) := l.map some
theorem sm_len {l : List (List V)} : (sm l).length = l.length := by simp [sm]
theorem sm_rowAt {l : List (List V)} {i : Nat} : rowAt (sm l) i = l[i]? := by
  unfold rowAt sm
  rw [List.getElem?_map]
  cases l[i]? <;> rfl
theorem sm_allRows {sz : Nat} : ∀ {l : List (List V)}, allRows sz (sm l) = some (l.map (.seq sz))
  | [] => rfl
  | r :: l => by
    have := sm_allRows (sz := sz) (l := l)
    simp only [sm] at this
    simp [sm, allRows, this]
theorem sm_set {l : List (List V)} {i : Nat} {r : List V} : (sm l).set i (some r) = sm (l.set i r) := by simp [sm]
theorem sm_flat : ∀ {l : List (List V)}, flatR (sm l) = l.all fun r => flats r
  | [] => rfl
  | r :: l => by
    have := sm_flat (l := l)
    simp only [sm] at this
    simp [sm, flatR, this]
def mkmK (σ : St) (d : Option Nat) (e by' e2 sz : Nat) (K : St → Prop) (m : Int) : Prop :=
  rqK (0 ≤ m ∧ m * by' ≤ 140737488355328) K ({ σ with h := σ.h ++ [some (Ob.mat e e2 sz (List.replicate m.toNat (some [])))] }.put d (.ref σ.h.length m.toNat))
theorem mkmK_app {e by' e2 sz} {m : Int} : mkmK σ d e by' e2 sz K m =
  rqK (0 ≤ m ∧ m * by' ≤ 140737488355328) K ({ σ with h := σ.h ++ [some (Ob.mat e e2 sz (sm (List.replicate m.toNat [])))] }.put d (.ref σ.h.length m.toNat)) := by simp [mkmK, sm]
theorem a_mkm {e by' e2 sz n} : wact Φ d (.mkm e by' e2 sz n) K σ = oM (mksV σ n) (mkmK σ d e by' e2 sz K) := by
  simp only [wact, mksV, oM]
  cases σ.ev n with
  | none => rfl
  | some v => cases v <;> first | rfl | simp only [mkmK, rqK, and_assoc]
theorem a_mkp {kt} : wact Φ d (.mkp kt) K σ = K ({ σ with h := σ.h ++ [some (Ob.mp kt [])] }.put d (.ref σ.h.length 0)) := propext Iff.rfl
theorem aD_mkp {kt} : wactD Φ d (.mkp kt) K σ = wact Φ d (.mkp kt) K σ := propext Iff.rfl
theorem aD_mup {x y z w} : wactD Φ d (.mup x y z w) K σ = wact Φ d (.mup x y z w) K σ := propext Iff.rfl
def mupV (σ : St) (kt : KT) (x k v : AO) : Option St := match σ.ev x, σ.ev k, σ.ev v with
  | some (.ref id _), some kv, some u => match σ.mp? id, pur σ.h u with
    | some (kt', l), some u' => if kt' = kt ∧ fitsK kt kv = true ∧ vids u = [] ∧ nt u' = true then some { σ with h := σ.h.set id (some (Ob.mp kt (mput kv u' l))) } else none
    | _, _ => none
  | _, _, _ => none
theorem a_mup {kt x k v} : wact Φ d (.mup kt x k v) K σ = oM (mupV σ kt x k v) (skK d K) := by
  simp only [wact, mupV]
  cases σ.ev x with
  | none => rfl
  | some a =>
    cases σ.ev k with
    | none => cases a <;> rfl
    | some b =>
      cases σ.ev v with
      | none => cases a <;> rfl
      | some c =>
        cases a <;> try rfl
        rename_i id n
        simp only
        cases σ.mp? id with
        | none => rfl
        | some p =>
          obtain ⟨kt', l⟩ := p
          cases pur σ.h c with
          | none => rfl
          | some u' =>
            simp only
            by_cases hc : kt' = kt ∧ fitsK kt b = true ∧ vids c = [] ∧ nt u' = true
            · rw [if_pos hc]
              exact propext ⟨fun h => h.2.2.2.2, fun h => ⟨hc.1, hc.2.1, hc.2.2.1, hc.2.2.2, h⟩⟩
            · rw [if_neg hc]
              exact propext ⟨fun h => (hc ⟨h.1, h.2.1, h.2.2.1, h.2.2.2.1⟩).elim, fun h => h.elim⟩
theorem fitsK_int {k : IntKind} {n : Int} : fitsK ⟨false, [.i k]⟩ (.int k n) = true := by simp [fitsK, aggV, cl, kOfs, kOf, somes]
theorem fitsK_str {s : List UInt8} : fitsK ⟨false, [.s]⟩ (.str s) = true := by simp [fitsK, aggV, cl, kOfs, kOf, somes]
def clK (Φ : Ctr) (d : Option Nat) (f : FuncId) (vs : List V) (σ : St) (K : St → Prop) (us : List V) : Prop := wcall Φ d f vs us K σ
def clKK (Φ : Ctr) (d : Option Nat) (f : FuncId) (σ : St) (K : St → Prop) (vs : List V) : Prop := oN (purs σ.h vs) (clK Φ d f vs σ K) (wcallH Φ d f vs K σ)
theorem clK_app {f vs us} : clK Φ d f vs σ K us = wcall Φ d f vs us K σ := propext Iff.rfl
theorem clKK_app {f vs} : clKK Φ d f σ K vs = oN (purs σ.h vs) (clK Φ d f vs σ K) (wcallH Φ d f vs K σ) := propext Iff.rfl
theorem a_call {f xs} : wact Φ d (.call f xs) K σ = oM (σ.evs xs) (clKK Φ d f σ K) := by
  simp only [wact, oM]
  cases σ.evs xs with
  | none => rfl
  | some vs => simp only [clKK, oN]; cases purs σ.h vs <;> rfl
def chK (Φ : Ctr) (d : Option Nat) (f : FuncId) (σ : St) (K : St → Prop) (vs : List V) : Prop := wcallH Φ d f vs K σ
theorem chK_app {f vs} : chK Φ d f σ K vs = wcallH Φ d f vs K σ := propext Iff.rfl
theorem a_callH {f xs} : wact Φ d (.callH f xs) K σ = oM (σ.evs xs) (chK Φ d f σ K) := by
  simp only [wact, oM]
  cases σ.evs xs <;> rfl
def clDK (Φ : Ctr) (d : Option Nat) (f : FuncId) (vs : List V) (σ : St) (K : St → Prop) (us : List V) : Prop := wcallD Φ d f vs us K σ
def clDKK (Φ : Ctr) (d : Option Nat) (f : FuncId) (σ : St) (K : St → Prop) (vs : List V) : Prop := oM (purs σ.h vs) (clDK Φ d f vs σ K)
theorem clDK_app {f vs us} : clDK Φ d f vs σ K us = wcallD Φ d f vs us K σ := propext Iff.rfl
theorem clDKK_app {f vs} : clDKK Φ d f σ K vs = oM (purs σ.h vs) (clDK Φ d f vs σ K) := propext Iff.rfl
theorem aD_call {f xs} : wactD Φ d (.call f xs) K σ = oM (σ.evs xs) (clDKK Φ d f σ K) := by
  simp only [wactD, oM]
  cases σ.evs xs with
  | none => rfl
  | some vs => simp only [clDKK, oM]; cases purs σ.h vs <;> rfl
def fnV (σ : St) (g : AO) (xs : List AO) : Option (FuncId × List V) := match σ.ev g, σ.evs xs with
  | some (.fn (.func f) a b), some vs => some (f, a ++ vs ++ b)
  | _, _ => none
def cvK (Φ : Ctr) (d : Option Nat) (σ : St) (K : St → Prop) (p : FuncId × List V) : Prop := oN (purs σ.h p.2) (clK Φ d p.1 p.2 σ K) (wcallH Φ d p.1 p.2 K σ)
def invV (σ : St) (tbl : List (Nat × FuncId)) (x : AO) (xs : List AO) : Option (FuncId × List V) := match σ.ev x, σ.evs xs with
  | some (.iface t v), some vs => match lkF tbl t with
    | some f => some (f, v :: vs)
    | none => none
  | _, _ => none
theorem a_inv {tbl x xs} : wact Φ d (.inv tbl x xs) K σ = oM (invV σ tbl x xs) (cvK Φ d σ K) := by
  simp only [wact, invV]
  cases σ.ev x with
  | none => rfl
  | some a =>
    cases σ.evs xs with
    | none => cases a <;> rfl
    | some vs =>
      cases a <;> try rfl
      rename_i t v
      simp only
      cases lkF tbl t with
      | none => rfl
      | some f => simp only [oM, cvK, oN]; cases purs σ.h (v :: vs) <;> rfl
theorem cvK_app {f vs} : cvK Φ d σ K (f, vs) = oN (purs σ.h vs) (clK Φ d f vs σ K) (wcallH Φ d f vs K σ) := propext Iff.rfl
theorem a_callv {g xs} : wact Φ d (.callv g xs) K σ = oM (fnV σ g xs) (cvK Φ d σ K) := by
  simp only [wact, fnV, oM]
  cases σ.ev g with
  | none => rfl
  | some v =>
    cases v with
    | fn f a b =>
      cases f <;> cases σ.evs xs <;> try rfl
      rename_i vs
      simp only [cvK, oN]
      cases purs σ.h (a ++ vs ++ b) <;> rfl
    | _ => rfl
def cvDK (Φ : Ctr) (d : Option Nat) (σ : St) (K : St → Prop) (p : FuncId × List V) : Prop := oM (purs σ.h p.2) (clDK Φ d p.1 p.2 σ K)
theorem cvDK_app {f vs} : cvDK Φ d σ K (f, vs) = oM (purs σ.h vs) (clDK Φ d f vs σ K) := propext Iff.rfl
theorem aD_callv {g xs} : wactD Φ d (.callv g xs) K σ = oM (fnV σ g xs) (cvDK Φ d σ K) := by
  simp only [wactD, fnV, oM]
  cases σ.ev g with
  | none => rfl
  | some v =>
    cases v with
    | fn f a b =>
      cases f <;> cases σ.evs xs <;> try rfl
      rename_i vs
      simp only [cvDK, oM]
      cases purs σ.h (a ++ vs ++ b) <;> rfl
    | _ => rfl
end
def resK (post : V → Prop) (us : List V) : Prop := post (tupV us)
theorem resK_app {post : V → Prop} {us : List V} : resK post us = post (tupV us) := propext Iff.rfl
def resKK (post : V → Prop) (σ : St) (vs : List V) : Prop := oM (purs σ.h vs) (resK post)
theorem resKK_app {post : V → Prop} {σ : St} {vs : List V} : resKK post σ vs = oM (purs σ.h vs) (resK post) := propext Iff.rfl
theorem Res_norm {rs : List RV} {post : V → Prop} {σ : St} : Res rs post .norm σ = oM (σ.rvs rs) (resKK post σ) := by
  unfold Res resKK oM
  cases σ.rvs rs with
  | none => simp
  | some vs => simp only; cases purs σ.h vs <;> simp [resK]
theorem Res_ret {rs : List RV} {post : V → Prop} {σ : St} : Res rs post .ret σ = oM (σ.rvs rs) (resKK post σ) := by
  unfold Res resKK oM
  cases σ.rvs rs with
  | none => simp
  | some vs => simp only; cases purs σ.h vs <;> simp [resK]
def resHK (σ : St) (ps : List Nat) (us : List V) (r : V) (H' : List (Option Ob)) (vs : List V) : Prop := resHM σ ps us r H' vs (lent σ.h (pvals (pk σ.r ps)) vs).2
theorem resHK_app {σ : St} {ps : List Nat} {us : List V} {r : V} {H' : List (Option Ob)} {vs : List V} : resHK σ ps us r H' vs = resHM σ ps us r H' vs (lent σ.h (pvals (pk σ.r ps)) vs).2 := propext Iff.rfl
theorem ResH_norm {rs : List RV} {σ : St} {ps : List Nat} {us : List V} {r : V} {H' : List (Option Ob)} : ResH rs ps us r H' .norm σ = oM (σ.rvs rs) (resHK σ ps us r H') := by
  unfold ResH oM
  cases σ.rvs rs <;> simp [resHK]
theorem ResH_ret {rs : List RV} {σ : St} {ps : List Nat} {us : List V} {r : V} {H' : List (Option Ob)} : ResH rs ps us r H' .ret σ = oM (σ.rvs rs) (resHK σ ps us r H') := by
  unfold ResH oM
  cases σ.rvs rs <;> simp [resHK]
section
variable {Φ : Ctr} {σ : St} {K : St → Prop} {d : Option Nat}
/-- The end of a call that turns what is lent to it. -/
def hEnd (σ : St) (d : Option Nat) (K : St → Prop) (q : Nat) (m : List Nat) (r : V) (H' : List (Option Ob)) : Prop := K (St.put ⟨σ.r, σ.back q m H'⟩ d (bck (dest q m σ.h.length H'.length) r))
theorem hEnd_app {q : Nat} {m : List Nat} {r : V} {H' : List (Option Ob)} : hEnd σ d K q m r H' = K (St.put ⟨σ.r, σ.back q m H'⟩ d (bck (dest q m σ.h.length H'.length) r)) := propext Iff.rfl
theorem wcallH_mk (ps : List Nat) (q : Nat) (m : List Nat) {f : FuncId} {vs us : List V} {H H' : List (Option Ob)} {r : V} (hc : σ.curs (pickV vs ps) = true) (hl : lent σ.h (pickV vs ps) vs = (q, m)) (hu : rens m vs = us) (hH : renH σ.h m m = H)
    (h : Φ.e f ps us H r H') (hk : kin q H H' = true) (k : ok r → okH H' → hEnd σ d K q m r H') : wcallH Φ d f vs K σ := by
  refine ⟨ps, hc, r, H', ?_, ?_, ?_⟩
  · rw [hl, hH]; exact hk
  · rw [hl, hu, hH]; exact h
  · rw [hl]; exact k
end
def resNK (r : V) (us : List V) : Prop := tupV us = r
theorem resNK_app {r : V} {us : List V} : resNK r us = (tupV us = r) := propext Iff.rfl
def resNKK (r : V) (σ : St) (vs : List V) : Prop := fres σ.h vs = true ∧ oM (purs σ.h vs) (resNK r)
theorem resNKK_app {r : V} {σ : St} {vs : List V} : resNKK r σ vs = (fres σ.h vs = true ∧ oM (purs σ.h vs) (resNK r)) := propext Iff.rfl
theorem ResN_norm {rs : List RV} {r : V} {σ : St} : ResN rs r .norm σ = oM (σ.rvs rs) (resNKK r σ) := by
  unfold ResN resNKK oM
  cases σ.rvs rs with
  | none => simp
  | some vs => simp only; cases purs σ.h vs <;> simp [resNK]
theorem ResN_ret {rs : List RV} {r : V} {σ : St} : ResN rs r .ret σ = oM (σ.rvs rs) (resNKK r σ) := by
  unfold ResN resNKK oM
  cases σ.rvs rs with
  | none => simp
  | some vs => simp only; cases purs σ.h vs <;> simp [resNK]
theorem tupV0 : tupV [] = .tup [] := rfl
theorem tupV1 {v : V} : tupV [v] = v := rfl
theorem tupV2 {v w : V} {l : List V} : tupV (v :: w :: l) = .tup (v :: w :: l) := rfl

attribute [simp] wtree_nil wtree_op wtree_both nrmK_app W_regF' W_label W_goto then_goto inBlock_goto jump_norm jump_ret jump_exit jump_goto W_skip W_reg' W_regD' W_regE' W_seq' W_block W_exit W_ret W_cond' then_norm then_exit then_ret inBlock_norm inBlock_ret inBlock_exit
  BrK_true BrK_false BrK_t BrK_f BrK_n rqK_t rqK_true oM_some oM_none cM_bool gM_true gM_false gM_tup clsK_app skK_app putK_app wops_nil wops_cons wop_n wop_g wopsD_nil wopsD_cons wopD_n wopD_g wall_nil wall_cons
  boxK_app s2bK_app litK_app litKK_app litDK_app litDKK_app appK_app mksK_app mkmK_app sm_len sm_rowAt sm_allRows sm_set sm_flat a_mkm a_mkp aD_mkp aD_mup a_mup a_inv fitsK_int fitsK_str clK_app clKK_app clDK_app clDKK_app cvK_app cvDK_app resK_app resKK_app oN_some oN_none chK_app fz fzs a_callH resHK_app ResH_norm ResH_ret hEnd_app resNK_app resNKK_app ResN_norm ResN_ret jk jks fre fres
  a_mov a_pick a_fld a_fa a_ia a_iaa a_ld a_ixs a_ixa a_bin a_un a_cii a_b2s a_sls a_slq a_lens a_lenq a_beq a_ext a_bld a_mkf a_nlc a_mki a_aeq a_lkp a_mm a_nlq aD_mov aD_pick aD_fld aD_fa aD_ia aD_iaa aD_ld aD_ixs aD_ixa aD_bin aD_un aD_cii aD_b2s aD_sls aD_slq aD_lens aD_lenq aD_beq aD_ext aD_bld aD_mkf aD_nlc aD_mki aD_aeq aD_lkp aD_mm aD_nlq aD_alc aD_box aD_st aD_app aD_mks aD_mkm aD_s2b
  a_alc a_box a_st a_s2b a_lit a_app a_mks a_call a_callv aD_lit aD_call aD_callv
  boxV stV strV appV mksV fnV mupV invV lkF Res_norm Res_ret tupV0 tupV1 tupV2
  St.ev St.evs St.evo St.val St.put lk pk St.fetch St.box? St.arr? St.rws? St.mp? cut splice cl mkc vbin vstr
  St.live St.fwd St.stor St.storM St.kill bldV isS nt flat flats vids vidss pur purs pur1 pur2 src flatR sliceV sameLen ofBytesV memb
  St.nrm rids hids renR ren rens renH renO uniq idx St.mats St.mat ent St.rv St.rvs ok oks okH pickV St.cur St.curA St.cur0 St.curs lent bck bcks bckO bckH wr dest St.back resHM pvals pinEq kin
theorem wrap64 (n : Int) (h1 : -9223372036854775808 ≤ n) (h2 : n ≤ 9223372036854775807) : IntKind.i64.wrap n = n := by
  rw [Go.IntKind.wrap_i64]; omega
theorem max64 : IntKind.i64.max = 9223372036854775807 := by decide
theorem min64 : IntKind.i64.min = -9223372036854775808 := by decide
theorem maxU8 : IntKind.u8.max = 255 := by decide
theorem minU8 : IntKind.u8.min = 0 := by decide
theorem wrapU8 (n : Int) (h1 : 0 ≤ n) (h2 : n ≤ 255) : IntKind.u8.wrap n = n := by
  rw [Go.IntKind.wrap_u8]; omega
theorem wrapI32 (n : Int) (h1 : -2147483648 ≤ n) (h2 : n ≤ 2147483647) : IntKind.i32.wrap n = n := by
  rw [Go.IntKind.wrap_i32]; omega
theorem vadd64 {a b : Int} (h1 : -9223372036854775808 ≤ a + b) (h2 : a + b ≤ 9223372036854775807) : vint .add .i64 a b = some (.int .i64 (a + b)) := by simp only [vint, wrap64 _ h1 h2]
theorem vsub64 {a b : Int} (h1 : -9223372036854775808 ≤ a - b) (h2 : a - b ≤ 9223372036854775807) : vint .sub .i64 a b = some (.int .i64 (a - b)) := by simp only [vint, wrap64 _ h1 h2]
theorem vmul64 {a b : Int} (h1 : -9223372036854775808 ≤ a * b) (h2 : a * b ≤ 9223372036854775807) : vint .mul .i64 a b = some (.int .i64 (a * b)) := by simp only [vint, wrap64 _ h1 h2]
theorem vadd8 {a b : Int} (h1 : 0 ≤ a + b) (h2 : a + b ≤ 255) : vint .add .u8 a b = some (.int .u8 (a + b)) := by simp only [vint, wrapU8 _ h1 h2]
theorem vsub8 {a b : Int} (h1 : 0 ≤ a - b) (h2 : a - b ≤ 255) : vint .sub .u8 a b = some (.int .u8 (a - b)) := by simp only [vint, wrapU8 _ h1 h2]
theorem vadd32 {a b : Int} (h1 : -2147483648 ≤ a + b) (h2 : a + b ≤ 2147483647) : vint .add .i32 a b = some (.int .i32 (a + b)) := by simp only [vint, wrapI32 _ h1 h2]
theorem vsub32 {a b : Int} (h1 : -2147483648 ≤ a - b) (h2 : a - b ≤ 2147483647) : vint .sub .i32 a b = some (.int .i32 (a - b)) := by simp only [vint, wrapI32 _ h1 h2]
theorem vmul32 {a b : Int} (h1 : -2147483648 ≤ a * b) (h2 : a * b ≤ 2147483647) : vint .mul .i32 a b = some (.int .i32 (a * b)) := by simp only [vint, wrapI32 _ h1 h2]
theorem vcii64 {n : Int} (h1 : -9223372036854775808 ≤ n) (h2 : n ≤ 9223372036854775807) : vcii .i64 n = some (.int .i64 n) := by simp only [vcii, wrap64 _ h1 h2]
theorem vcii8 {n : Int} (h1 : 0 ≤ n) (h2 : n ≤ 255) : vcii .u8 n = some (.int .u8 n) := by simp only [vcii, wrapU8 _ h1 h2]
theorem vcii32 {n : Int} (h1 : -2147483648 ≤ n) (h2 : n ≤ 2147483647) : vcii .i32 n = some (.int .i32 n) := by simp only [vcii, wrapI32 _ h1 h2]
theorem vneg64 {n : Int} (h1 : -9223372036854775808 ≤ 0 - n) (h2 : 0 - n ≤ 9223372036854775807) : vun .neg (.int .i64 n) = some (.int .i64 (0 - n)) := by simp only [vun, wrap64 _ h1 h2]
attribute [simp high] vadd64 vsub64 vmul64 vadd8 vsub8 vadd32 vsub32 vmul32 vcii64 vcii8 vcii32 vneg64
theorem vquo64 {a b : Int} (h0 : 0 ≤ a) (h1 : 0 < b) (h2 : a ≤ 9223372036854775807) : vint .quo .i64 a b = some (.int .i64 (a / b)) := by
  have h3 : 0 ≤ a / b := Int.ediv_nonneg h0 (by omega)
  have h4 : a / b ≤ a := Int.ediv_le_self _ h0
  simp only [vint]
  rw [if_neg (by omega), Int.tdiv_eq_ediv_of_nonneg h0, wrap64 _ (by omega) (by omega)]
theorem vrem64 {k : IntKind} {a b : Int} (h0 : 0 ≤ a) (h1 : 0 < b) : vint .rem k a b = some (.int k (a % b)) := by
  simp only [vint]
  rw [if_neg (by omega), Int.tmod_eq_emod_of_nonneg h0]
theorem vremt {k : IntKind} {a b : Int} (h1 : b ≠ 0) : vint .rem k a b = some (.int k (a.tmod b)) := by
  simp only [vint]
  rw [if_neg h1]
theorem veql {k : IntKind} {a b : Int} : vint .eql k a b = some (.bool (decide (a = b))) := rfl
theorem vneq {k : IntKind} {a b : Int} : vint .neq k a b = some (.bool (!decide (a = b))) := rfl
theorem vlss {k : IntKind} {a b : Int} : vint .lss k a b = some (.bool (decide (a < b))) := rfl
theorem vleq {k : IntKind} {a b : Int} : vint .leq k a b = some (.bool (decide (a ≤ b))) := rfl
theorem vgtr {k : IntKind} {a b : Int} : vint .gtr k a b = some (.bool (decide (b < a))) := rfl
theorem vgeq {k : IntKind} {a b : Int} : vint .geq k a b = some (.bool (decide (b ≤ a))) := rfl
theorem vnot {b : Bool} : vun .not (.bool b) = some (.bool !b) := rfl
attribute [simp high] vquo64 vrem64
attribute [simp] veql vneq vlss vleq vgtr vgeq vnot vremt wrap64 wrapU8 wrapI32 max64 min64 maxU8 minU8

theorem num_le (m n : Nat) : ((no_index (@OfNat.ofNat Int m instOfNat)) ≤ (n : Int)) ↔ (@OfNat.ofNat Nat m (instOfNatNat m)) ≤ n := Int.ofNat_le
theorem le_num (m n : Nat) : ((n : Int) ≤ (no_index (@OfNat.ofNat Int m instOfNat))) ↔ n ≤ (@OfNat.ofNat Nat m (instOfNatNat m)) := Int.ofNat_le
theorem num_lt (m n : Nat) : ((no_index (@OfNat.ofNat Int m instOfNat)) < (n : Int)) ↔ (@OfNat.ofNat Nat m (instOfNatNat m)) < n := Int.ofNat_lt
theorem lt_num (m n : Nat) : ((n : Int) < (no_index (@OfNat.ofNat Int m instOfNat))) ↔ n < (@OfNat.ofNat Nat m (instOfNatNat m)) := Int.ofNat_lt
theorem num_eq (m n : Nat) : ((no_index (@OfNat.ofNat Int m instOfNat)) = (n : Int)) ↔ (@OfNat.ofNat Nat m (instOfNatNat m)) = n := Int.ofNat_inj
theorem eq_num (m n : Nat) : ((n : Int) = (no_index (@OfNat.ofNat Int m instOfNat))) ↔ n = (@OfNat.ofNat Nat m (instOfNatNat m)) := Int.ofNat_inj
attribute [simp] num_le le_num num_lt lt_num num_eq eq_num

theorem get0 {α : Type} {x : α} {l : List α} : (x :: l)[0]? = some x := rfl
attribute [simp] get0

theorem ite_t {p : Prop} [Decidable p] {α : Sort _} {a b : α} (h : p) : (if p then a else b) = a := if_pos h
theorem ite_f {p : Prop} [Decidable p] {α : Sort _} {a b : α} (h : ¬p) : (if p then a else b) = b := if_neg h
attribute [simp] ite_t ite_f

theorem oks_all : ∀ {l : List V}, oks l ↔ ∀ v ∈ l, ok v
  | [] => by simp
  | v :: vs => by simp [oks_all]
theorem drop_cons {α : Type} {l : List α} {k : Nat} {x : α} (h : l[k]? = some x) : l.drop k = x :: l.drop (k + 1) := by
  obtain ⟨h1, h2⟩ := List.getElem?_eq_some_iff.1 h
  rw [List.drop_eq_getElem_cons h1, h2]
theorem get_lt {α : Type} {l : List α} {k : Nat} (h : k < l.length) : ∃ x, l[k]? = some x := ⟨_, List.getElem?_eq_getElem h⟩
/-- A list's place: it is behind the end, or there is a value. -/
theorem place {α : Type} (l : List α) (k : Nat) (h : k ≤ l.length) : (k = l.length ∧ l.drop k = []) ∨ (k < l.length ∧ ∃ x, l[k]? = some x ∧ l.drop k = x :: l.drop (k + 1)) := by
  rcases Nat.lt_or_ge k l.length with h' | h'
  · obtain ⟨x, hx⟩ := get_lt h'
    exact .inr ⟨h', x, hx, drop_cons hx⟩
  · have : k = l.length := by omega
    exact .inl ⟨this, by simp [this]⟩
/-- What is not looked at. -/
def Hid (p : Prop) : Prop := p
theorem Hid.out {p : Prop} (h : Hid p) : p := h
theorem hid {p : Prop} (h : p) : Hid p := h
end Go.Abs
