/-
  A program that goes through images: what it tells is so. For calls whose arguments are all known. No condition.
-/
import Derived.Test.YtpblinccnkidfaaDoorAbs14
set_option linter.unusedVariables false
set_option linter.unusedSimpArgs false
namespace Go.Abs

/-! ### Are two values the same? -/
def eqFn : Go.Fn → Go.Fn → Bool
  | .func f, .func g => decide (f = g)
  | _, _ => false
theorem eqFn_spec {f g : Go.Fn} (h : eqFn f g = true) : f = g := by
  cases f <;> cases g <;> simp [eqFn] at h
  rw [h]
mutual
def eqV : V → V → Bool
  | .int k n, .int k' n' => decide (k = k') && decide (n = n')
  | .bool a, .bool b => decide (a = b)
  | .str a, .str b => decide (a = b)
  | .nil a, .nil b => decide (a = b)
  | .seq a l, .seq b m => decide (a = b) && eqVs l m
  | .ref a n, .ref b m => decide (a = b) && decide (n = m)
  | .strct a, .strct b => eqVs a b
  | .ptr a n, .ptr b m => decide (a = b) && decide (n = m)
  | .eptr a n i o, .eptr b m j p => decide (a = b) && (decide (n = m) && (decide (i = j) && decide (o = p)))
  | .mref a i n, .mref b j m => decide (a = b) && (decide (i = j) && decide (n = m))
  | .fseq a l, .fseq b m => decide (a = b) && eqVs l m
  | .mptr a i n k o, .mptr b j m l p => decide (a = b) && (decide (i = j) && (decide (n = m) && (decide (k = l) && decide (o = p))))
  | .sptr x o, .sptr y p => eqV x y && decide (o = p)
  | .nilptr, .nilptr => true
  | .fn f a b, .fn g c d => eqFn f g && (eqVs a c && eqVs b d)
  | .nilfn, .nilfn => true
  | .iface t x, .iface u y => decide (t = u) && eqV x y
  | .niliface, .niliface => true
  | .tup a, .tup b => eqVs a b
  | .junk, .junk => true
  | _, _ => false
def eqVs : List V → List V → Bool
  | [], [] => true
  | u :: us, v :: vs => eqV u v && eqVs us vs
  | _, _ => false
end
mutual
theorem eqV_spec : ∀ {u v : V}, eqV u v = true → u = v
  | .int _ _, v, h => by cases v <;> simp_all [eqV]
  | .bool _, v, h => by cases v <;> simp_all [eqV]
  | .str _, v, h => by cases v <;> simp_all [eqV]
  | .nil _, v, h => by cases v <;> simp_all [eqV]
  | .ref _ _, v, h => by cases v <;> simp_all [eqV]
  | .ptr _ _, v, h => by cases v <;> simp_all [eqV]
  | .eptr _ _ _ _, v, h => by cases v <;> simp_all [eqV]
  | .mref _ _ _, v, h => by cases v <;> simp_all [eqV]
  | .mptr _ _ _ _ _, v, h => by cases v <;> simp_all [eqV]
  | .nilptr, v, h => by cases v <;> simp_all [eqV]
  | .nilfn, v, h => by cases v <;> simp_all [eqV]
  | .niliface, v, h => by cases v <;> simp_all [eqV]
  | .junk, v, h => by cases v <;> simp_all [eqV]
  | .seq a l, v, h => by
    cases v <;> simp only [eqV, Bool.and_eq_true, decide_eq_true_eq, reduceCtorEq] at h
    rw [h.1, eqVs_spec h.2]
  | .fseq a l, v, h => by
    cases v <;> simp only [eqV, Bool.and_eq_true, decide_eq_true_eq, reduceCtorEq] at h
    rw [h.1, eqVs_spec h.2]
  | .strct l, v, h => by
    cases v <;> simp only [eqV, Bool.and_eq_true, decide_eq_true_eq, reduceCtorEq] at h
    rw [eqVs_spec h]
  | .tup l, v, h => by
    cases v <;> simp only [eqV, Bool.and_eq_true, decide_eq_true_eq, reduceCtorEq] at h
    rw [eqVs_spec h]
  | .sptr x o, v, h => by
    cases v <;> simp only [eqV, Bool.and_eq_true, decide_eq_true_eq, reduceCtorEq] at h
    rw [eqV_spec h.1, h.2]
  | .iface t x, v, h => by
    cases v <;> simp only [eqV, Bool.and_eq_true, decide_eq_true_eq, reduceCtorEq] at h
    rw [h.1, eqV_spec h.2]
  | .fn f a b, v, h => by
    cases v <;> simp only [eqV, Bool.and_eq_true, decide_eq_true_eq, reduceCtorEq] at h
    rw [eqFn_spec h.1, eqVs_spec h.2.1, eqVs_spec h.2.2]
theorem eqVs_spec : ∀ {u v : List V}, eqVs u v = true → u = v
  | [], v, h => by cases v <;> simp_all [eqVs]
  | u :: us, v, h => by
    cases v <;> simp only [eqVs, Bool.and_eq_true, reduceCtorEq] at h
    rw [eqV_spec h.1, eqVs_spec h.2]
end
def eqRows : List (Option (List V)) → List (Option (List V)) → Bool
  | [], [] => true
  | none :: a, none :: b => eqRows a b
  | some u :: a, some v :: b => eqVs u v && eqRows a b
  | _, _ => false
theorem eqRows_spec : ∀ {a b : List (Option (List V))}, eqRows a b = true → a = b
  | [], b, h => by cases b <;> simp_all [eqRows]
  | none :: a, b, h => by
    match b, h with
    | none :: b, h => simp only [eqRows] at h; rw [eqRows_spec h]
    | some _ :: b, h => simp [eqRows] at h
    | [], h => simp [eqRows] at h
  | some u :: a, b, h => by
    match b, h with
    | some v :: b, h => simp only [eqRows, Bool.and_eq_true] at h; rw [eqVs_spec h.1, eqRows_spec h.2]
    | none :: b, h => simp [eqRows] at h
    | [], h => simp [eqRows] at h
def eqPs : List (V × V) → List (V × V) → Bool
  | [], [] => true
  | (u, v) :: a, (x, y) :: b => eqV u x && (eqV v y && eqPs a b)
  | _, _ => false
theorem eqPs_spec : ∀ {a b : List (V × V)}, eqPs a b = true → a = b
  | [], b, h => by cases b <;> simp_all [eqPs]
  | (u, v) :: a, b, h => by
    match b, h with
    | (x, y) :: b, h => simp only [eqPs, Bool.and_eq_true] at h; rw [eqV_spec h.1, eqV_spec h.2.1, eqPs_spec h.2.2]
    | [], h => simp [eqPs] at h
def eqO : Option Ob → Option Ob → Bool
  | none, none => true
  | some (.box a), some (.box b) => eqVs a b
  | some (.arr e sz l), some (.arr e' sz' l') => decide (e = e') && (decide (sz = sz') && eqVs l l')
  | some (.mat e e2 sz l), some (.mat e' e2' sz' l') => decide (e = e') && (decide (e2 = e2') && (decide (sz = sz') && eqRows l l'))
  | some (.mp kt l), some (.mp kt' l') => decide (kt = kt') && eqPs l l'
  | _, _ => false
theorem eqO_spec {a b : Option Ob} (h : eqO a b = true) : a = b := by
  rcases a with _ | a <;> rcases b with _ | b
  · rfl
  · cases b <;> simp [eqO] at h
  · cases a <;> simp [eqO] at h
  · cases a <;> cases b <;> simp only [eqO, Bool.and_eq_true, decide_eq_true_eq, reduceCtorEq] at h
    · rw [eqVs_spec h]
    · rw [h.1, h.2.1, eqVs_spec h.2.2]
    · rw [h.1, h.2.1, h.2.2.1, eqRows_spec h.2.2.2]
    · rw [h.1, eqPs_spec h.2]
def eqH : List (Option Ob) → List (Option Ob) → Bool
  | [], [] => true
  | a :: l, b :: m => eqO a b && eqH l m
  | _, _ => false
theorem eqH_spec : ∀ {a b : List (Option Ob)}, eqH a b = true → a = b
  | [], b, h => by cases b <;> simp_all [eqH]
  | x :: a, b, h => by
    match b, h with
    | y :: b, h => simp only [eqH, Bool.and_eq_true] at h; rw [eqO_spec h.1, eqH_spec h.2]
    | [], h => simp [eqH] at h
def eqR : List (Nat × V) → List (Nat × V) → Bool
  | [], [] => true
  | (n, v) :: l, (k, u) :: m => decide (n = k) && (eqV v u && eqR l m)
  | _, _ => false
theorem eqR_spec : ∀ {a b : List (Nat × V)}, eqR a b = true → a = b
  | [], b, h => by cases b <;> simp_all [eqR]
  | (n, v) :: a, b, h => by
    match b, h with
    | (k, u) :: b, h => simp only [eqR, Bool.and_eq_true, decide_eq_true_eq] at h; rw [h.1, eqV_spec h.2.1, eqR_spec h.2.2]
    | [], h => simp [eqR] at h
def eqS (σ τ : St) : Bool := eqR σ.r τ.r && eqH σ.h τ.h
theorem eqS_spec {σ τ : St} (h : eqS σ τ = true) : σ = τ := by
  obtain ⟨r, h1⟩ := σ
  obtain ⟨r', h2⟩ := τ
  simp only [eqS, Bool.and_eq_true] at h
  rw [eqR_spec h.1, eqH_spec h.2]

/-! ### Going through -/
/-- What calls give: of pure arguments (and: does it lie in new memory alone?); which places are turned; of arguments that name what is lent. -/
structure Env where
  p : FuncId → List V → Option (V × Bool)
  ps : FuncId → Option (List Nat)
  h : FuncId → List V → List (Option Ob) → Option (V × List (Option Ob))

def xcall (env : Env) (d : Option Nat) (f : FuncId) (vs us : List V) (σ : St) : Option St :=
  match env.p f us with
  | some (r, nw) => if flat r = true ∨ vidss vs = [] ∨ nw = true then some (σ.put d r) else some ((σ.kill (vidss vs)).put d r)
  | none => none
def xcallHK (env : Env) (d : Option Nat) (f : FuncId) (vs : List V) (σ : St) (q : Nat) (m : List Nat) : Option St :=
  match env.h f (rens m vs) (renH σ.h m m) with
  | some (r, H') => if kin q (renH σ.h m m) H' = true then some (St.put ⟨σ.r, σ.back q m H'⟩ d (bck (dest q m σ.h.length H'.length) r)) else none
  | none => none
def xcallH (env : Env) (d : Option Nat) (f : FuncId) (vs : List V) (σ : St) : Option St :=
  match env.ps f with
  | some ps => if σ.curs (pickV vs ps) = true then xcallHK env d f vs σ (lent σ.h (pickV vs ps) vs).1 (lent σ.h (pickV vs ps) vs).2 else none
  | none => none
def xact (env : Env) (d : Option Nat) (a : Act') (σ : St) : Option St :=
  match a with
  | .alc z => some ({ σ with h := σ.h ++ [some (Ob.box z)] }.put d (.ptr σ.h.length 0))
  | .box x => match σ.ev x with
    | some v => if nt v = true then some ({ σ with h := σ.h ++ [some (Ob.box (cl v))] }.put d (.ptr σ.h.length 0)) else none
    | none => none
  | .st n p x => match σ.ev p, σ.ev x with
    | some a, some v => if nt v = true then (match σ.stor n a (cl v) with
      | some σ' => some (σ'.put d (.tup []))
      | none => none) else none
    | _, _ => none
  | .s2b x => match σ.ev x with
    | some (.str s) => if s.length ≤ 140737488355328 then some (σ.put d (.seq 1 (bytesV s))) else none
    | _ => none
  | .lit _ sz xs => match σ.evs xs with
    | some vs => match purs σ.h vs with
      | some us => if sameLen sz us = true ∧ us.length ≤ 16777216 then some ((σ.kill (vidss vs)).put d (.seq sz us)) else none
      | none => none
    | none => none
  | .app x y e sz by' => match σ.ev x, σ.ev y with
    | some u, some v => match src σ.h v with
      | some (.seq sz' l) => if sz' = sz then
        (match u with
        | .nil _ => if l.length * by' ≤ 140737488355328 then some ({ σ with h := σ.h ++ [some (Ob.arr e sz l)] }.put d (.ref σ.h.length l.length)) else none
        | .ref id n => match σ.arr? id with
          | some (e', sz', l0) => if e' = e ∧ sz' = sz ∧ n = l0.length ∧ (n + l.length) * by' ≤ 140737488355328 then
            some ({ σ with h := σ.h.set id (some (Ob.arr e sz (l0 ++ l))) }.put d (.ref id (n + l.length))) else none
          | none => none
        | _ => none) else none
      | _ => none
    | _, _ => none
  | .mks e sz by' z n => match σ.ev n with
    | some (.int _ m) => if 0 ≤ m ∧ m * by' ≤ 140737488355328 then
      some ({ σ with h := σ.h ++ [some (Ob.arr e sz (List.replicate m.toNat z))] }.put d (.ref σ.h.length m.toNat)) else none
    | _ => none
  | .mkm e by' e2 sz n => match σ.ev n with
    | some (.int _ m) => if 0 ≤ m ∧ m * by' ≤ 140737488355328 then
      some ({ σ with h := σ.h ++ [some (Ob.mat e e2 sz (List.replicate m.toNat (some [])))] }.put d (.ref σ.h.length m.toNat)) else none
    | _ => none
  | .call f xs => match σ.evs xs with
    | some vs => match purs σ.h vs with
      | some us => xcall env d f vs us σ
      | none => xcallH env d f vs σ
    | none => none
  | .callv g xs => match σ.ev g, σ.evs xs with
    | some (.fn (.func f) a b), some vs => match purs σ.h (a ++ vs ++ b) with
      | some us => xcall env d f (a ++ vs ++ b) us σ
      | none => xcallH env d f (a ++ vs ++ b) σ
    | _, _ => none
  | .callH f xs => match σ.evs xs with
    | some vs => xcallH env d f vs σ
    | none => none
  | .mkp kt => some ({ σ with h := σ.h ++ [some (Ob.mp kt [])] }.put d (.ref σ.h.length 0))
  | .mup kt x k v => match σ.ev x, σ.ev k, σ.ev v with
    | some (.ref id _), some kv, some u => match σ.mp? id, pur σ.h u with
      | some (kt', l), some u' => if kt' = kt ∧ fitsK kt kv = true ∧ vids u = [] ∧ nt u' = true then some ({ σ with h := σ.h.set id (some (Ob.mp kt (mput kv u' l))) }.put d (.tup [])) else none
      | _, _ => none
    | _, _, _ => none
  | .inv tbl x xs => match σ.ev x, σ.evs xs with
    | some (.iface t v), some vs => match lkF tbl t with
      | some f => (match purs σ.h (v :: vs) with
        | some us => xcall env d f (v :: vs) us σ
        | none => xcallH env d f (v :: vs) σ)
      | none => none
    | _, _ => none
  | .ltr e sz xs => match σ.evs xs with
    | some vs => match purs σ.h vs with
      | some us => if sameLen sz us = true ∧ us.length ≤ 16777216 then some (St.put ⟨(σ.kill (vidss vs)).r, (σ.kill (vidss vs)).h ++ [some (Ob.arr e sz us)]⟩ d (.ref (σ.kill (vidss vs)).h.length us.length)) else none
      | none => none
    | none => none
  | .trc x hi sz => match σ.ev x, σ.ev hi with
    | some (.ref id n), some (.int _ b) => match σ.arr? id with
      | some (e, sz', l) => if sz' = sz ∧ n = l.length ∧ 0 ≤ b ∧ b ≤ n then some ({ σ with h := σ.h.set id none ++ [some (Ob.arr e sz (l.take b.toNat))] }.put d (.ref σ.h.length b.toNat)) else none
      | none => none
    | _, _ => none
  | a => match σ.val a with
    | some v => some (σ.put d v)
    | none => none
def xcallD (env : Env) (d : Option Nat) (f : FuncId) (vs us : List V) (σ : St) : Option St :=
  match env.p f us with
  | some (r, nw) => if flat r = true ∨ vidss vs = [] ∨ nw = true then some (σ.put d r) else none
  | none => none
def xactD (env : Env) (d : Option Nat) (a : Act') (σ : St) : Option St :=
  match a with
  | .lit _ sz xs => match σ.evs xs with
    | some vs => match purs [] vs with
      | some us => if sameLen sz us = true ∧ us.length ≤ 16777216 then some (σ.put d (.seq sz us)) else none
      | none => none
    | none => none
  | .call f xs => match σ.evs xs with
    | some vs => match purs σ.h vs with
      | some us => xcallD env d f vs us σ
      | none => none
    | none => none
  | .callv g xs => match σ.ev g, σ.evs xs with
    | some (.fn (.func f) a b), some vs => match purs σ.h (a ++ vs ++ b) with
      | some us => xcallD env d f (a ++ vs ++ b) us σ
      | none => none
    | _, _ => none
  | .callH f xs => match σ.evs xs with
    | some vs => xcallH env d f vs σ
    | none => none
  | .inv _ _ _ => none
  | .trc _ _ _ => none
  | .ltr _ _ _ => none
  | a => xact env d a σ
def xop (x : Option Nat → Act' → St → Option St) (o : AOp) (σ : St) : Option St :=
  match o.g with
  | none => x o.d o.a σ
  | some (t, b) => match lk σ.r t with
    | some (.bool y) => if y = b then x o.d o.a σ else some (σ.put o.d (.tup []))
    | some (.tup []) => some (σ.put o.d (.tup []))
    | _ => none
def xops (x : Option Nat → Act' → St → Option St) : List AOp → St → Option St
  | [], σ => some σ
  | o :: os, σ => match xop x o σ with
    | some τ => xops x os τ
    | none => none
def xtree (env : Env) (ks : List Nat) : OT → St → Option St
  | .nil, σ => some (σ.nrm ks)
  | .op o t, σ => match xop (xactD env) o σ with
    | some τ => xtree env ks t τ
    | none => none
  | .both a b, σ => match xtree env ks a σ, xtree env ks b σ with
    | some τ, some τ' => if eqS τ τ' = true then some τ else none
    | _, _ => none
def xloop (f : St → Option (Ex × St)) (ks : List Nat) : Nat → St → Option (Ex × St)
  | 0, _ => none
  | n + 1, τ => match f τ with
    | some (.norm, τ') => xloop f ks n (τ'.nrm ks)
    | some (e, τ') => some (e, τ')
    | none => none
def xjump (l : Nat) (f : St → Option (Ex × St)) (ks : List Nat) : Nat → St → Option (Ex × St)
  | 0, _ => none
  | n + 1, τ => match f τ with
    | some (.goto l', τ') => if l' = l then xjump l f ks n (τ'.nrm ks) else none
    | some (e, τ') => some (e, τ')
    | none => none
def xcode (env : Env) (fuel : Nat) : AC → St → Option (Ex × St)
  | .skip, σ => some (.norm, σ)
  | .reg ops ks, σ => match xops (xact env) ops σ with
    | some σ' => some (.norm, σ.cls σ' ks)
    | none => none
  | .regD ops ks, σ => match xops (xactD env) ops σ with
    | some σ' => some (.norm, σ.cls σ' ks)
    | none => none
  | .regE _ _, _ => none
  | .regF t ks, σ => match xtree env ks t σ with
    | some σ' => some (.norm, σ')
    | none => none
  | .scope l ks a b, σ => match xcode env fuel a σ with
    | some (.goto l', τ) => if l' = l then xjump l (xcode env fuel b) ks fuel (τ.nrm ks) else none
    | r => r
  | .label _, σ => some (.norm, σ)
  | .goto l, σ => some (.goto l, σ)
  | .bad, _ => none
  | .seq a b, σ => match xcode env fuel a σ with
    | some (.norm, τ) => xcode env fuel b τ
    | r => r
  | .cond c a b, σ => match σ.ev c with
    | some (.bool t) => if t = true then xcode env fuel a σ else xcode env fuel b σ
    | _ => none
  | .block id c, σ => match xcode env fuel c σ with
    | some (.exit id', τ) => if id' = id then some (.norm, τ) else some (.exit id', τ)
    | r => r
  | .loop ks c, σ => xloop (xcode env fuel c) ks fuel (σ.nrm ks)
  | .exit id, σ => some (.exit id, σ)
  | .ret, σ => some (.ret, σ)

/-! ### What it tells is so -/
structure EnvOK (env : Env) (Φ : Ctr) : Prop where
  p : ∀ f us r nw, env.p f us = some (r, nw) → Φ.p f us r ∧ (nw = true → Φ.n f us r)
  h : ∀ f us H r H' ps, env.ps f = some ps → env.h f us H = some (r, H') → Φ.e f ps us H r H'

section
variable {env : Env} {Φ : Ctr} (hE : EnvOK env Φ) {d : Option Nat} {σ τ : St} {K : St → Prop}
include hE
theorem xcall_sound {f : FuncId} {vs us : List V} (h : xcall env d f vs us σ = some τ) (hK : K τ) : wcall Φ d f vs us K σ := by
  unfold xcall at h
  split at h
  · rename_i r nw hr
    obtain ⟨h1, h2⟩ := hE.p _ _ _ _ hr
    split at h
    · rename_i hc
      cases h
      refine ⟨r, .inl ⟨?_, fun _ => hK⟩⟩
      rcases hc with h | h | h
      · exact .inl ⟨h1, .inl h⟩
      · exact .inl ⟨h1, .inr h⟩
      · exact .inr (h2 h)
    · cases h
      exact ⟨r, .inr (.inl ⟨h1, fun _ => hK⟩)⟩
  · cases h
theorem xcallD_sound {f : FuncId} {vs us : List V} (h : xcallD env d f vs us σ = some τ) (hK : K τ) : wcallD Φ d f vs us K σ := by
  unfold xcallD at h
  split at h
  · rename_i r nw hr
    obtain ⟨h1, h2⟩ := hE.p _ _ _ _ hr
    split at h
    · rename_i hc
      cases h
      refine ⟨r, ?_, hK⟩
      rcases hc with h | h | h
      · exact .inl ⟨h1, .inl h⟩
      · exact .inl ⟨h1, .inr h⟩
      · exact .inr (h2 h)
    · cases h
  · cases h
theorem xcallH_soundD {f : FuncId} {vs : List V} (h : xcallH env d f vs σ = some τ) (hK : K τ) : wcallHD Φ d f vs K σ := by
  unfold xcallH at h
  split at h
  · rename_i ps hps
    split at h
    · rename_i hc
      unfold xcallHK at h
      split at h
      · rename_i r H' hr
        split at h
        · rename_i hk
          cases h
          exact ⟨ps, hc, r, H', hk, hE.h _ _ _ _ _ _ hps hr, hK⟩
        · cases h
      · cases h
    · cases h
  · cases h
theorem xcallH_sound {f : FuncId} {vs : List V} (h : xcallH env d f vs σ = some τ) (hK : K τ) : wcallH Φ d f vs K σ := by
  obtain ⟨ps, h1, r, H', h2, h3, h4⟩ := xcallH_soundD hE h hK
  exact ⟨ps, h1, r, H', h2, h3, fun _ _ => h4⟩
theorem xact_sound {a : Act'} (h : xact env d a σ = some τ) (hK : K τ) : wact Φ d a K σ := by
  cases a with
  | alc z => simp only [xact, Option.some.injEq] at h; subst h; exact hK
  | box x =>
    simp only [xact] at h
    simp only [wact]
    split at h
    · rename_i v hv
      simp only [hv]
      split at h
      · rename_i hc; cases h; simp only [if_pos hc]; exact hK
      · cases h
    · cases h
  | st n p x =>
    simp only [xact] at h
    simp only [wact]
    split at h
    · rename_i v u hv hu
      simp only [hv, hu]
      split at h
      · rename_i hc
        simp only [if_pos hc]
        split at h
        · rename_i σ' hs; simp only [hs]; cases h; exact hK
        · cases h
      · cases h
    · cases h
  | s2b x =>
    simp only [xact] at h
    simp only [wact]
    split at h
    · rename_i s hv
      simp only [hv]
      split at h
      · rename_i hc; cases h; exact ⟨hc, hK⟩
      · cases h
    · cases h
  | lit e0 sz xs =>
    simp only [xact] at h
    simp only [wact]
    split at h
    · rename_i vs hv
      simp only [hv]
      split at h
      · rename_i us hu
        simp only [hu]
        split at h
        · rename_i hc; cases h; exact ⟨hc.1, hc.2, hK⟩
        · cases h
      · cases h
    · cases h
  | ltr e0 sz xs =>
    simp only [xact] at h
    simp only [wact]
    split at h
    · rename_i vs hv
      simp only [hv]
      split at h
      · rename_i us hu
        simp only [hu]
        split at h
        · rename_i hc; cases h; exact ⟨hc.1, hc.2, hK⟩
        · cases h
      · cases h
    · cases h
  | app x y e sz by' =>
    simp only [xact] at h
    simp only [wact]
    split at h
    · rename_i u v hu hv
      simp only [hu, hv]
      split at h
      · rename_i sz' l hs
        simp only [hs]
        split at h
        · rename_i hc
          refine ⟨hc, ?_⟩
          split at h
          · split at h
            · rename_i hb; cases h; exact ⟨hb, hK⟩
            · cases h
          · split at h
            · rename_i e' sz2 l0 ha
              simp only [ha]
              split at h
              · rename_i hb; cases h; exact ⟨hb.1, hb.2.1, hb.2.2.1, hb.2.2.2, hK⟩
              · cases h
            · cases h
          · cases h
        · cases h
      · cases h
    · cases h
  | mks e sz by' z n =>
    simp only [xact] at h
    simp only [wact]
    split at h
    · rename_i k m hv
      simp only [hv]
      split at h
      · rename_i hc; cases h; exact ⟨hc.1, hc.2, hK⟩
      · cases h
    · cases h
  | mkm e by' e2 sz n =>
    simp only [xact] at h
    simp only [wact]
    split at h
    · rename_i k m hv
      simp only [hv]
      split at h
      · rename_i hc; cases h; exact ⟨hc.1, hc.2, hK⟩
      · cases h
    · cases h
  | call f xs =>
    simp only [xact] at h
    simp only [wact]
    split at h
    · rename_i vs hv
      simp only [hv]
      split at h
      · rename_i us hu; simp only [hu]; exact xcall_sound hE h hK
      · rename_i hu; simp only [hu]; exact xcallH_sound hE h hK
    · cases h
  | callv g xs =>
    simp only [xact] at h
    simp only [wact]
    split at h
    · rename_i f a b vs hg hv
      simp only [hg, hv]
      split at h
      · rename_i us hu; simp only [hu]; exact xcall_sound hE h hK
      · rename_i hu; simp only [hu]; exact xcallH_sound hE h hK
    · cases h
  | callH f xs =>
    simp only [xact] at h
    simp only [wact]
    split at h
    · rename_i vs hv; simp only [hv]; exact xcallH_sound hE h hK
    · cases h
  | mkp kt => simp only [xact, Option.some.injEq] at h; subst h; exact hK
  | mup kt x k v =>
    simp only [xact] at h
    simp only [wact]
    split at h
    · rename_i id n kv u h1 h2 h3
      simp only [h1, h2, h3]
      split at h
      · rename_i kt' l u' h4 h5
        simp only [h4, h5]
        split at h
        · rename_i hc; cases h; exact ⟨hc.1, hc.2.1, hc.2.2.1, hc.2.2.2, hK⟩
        · cases h
      · cases h
    · cases h
  | inv tbl x xs =>
    simp only [xact] at h
    simp only [wact]
    split at h
    · rename_i t v vs h1 h2
      simp only [h1, h2]
      split at h
      · rename_i f hf
        simp only [hf]
        split at h
        · rename_i us hu; simp only [hu]; exact xcall_sound hE h hK
        · rename_i hu; simp only [hu]; exact xcallH_sound hE h hK
      · cases h
    · cases h
  | trc x hi sz =>
    simp only [xact] at h
    simp only [wact]
    split at h
    · rename_i id n k b h1 h2
      simp only [h1, h2]
      split at h
      · rename_i e sz' l h3
        simp only [h3]
        split at h
        · rename_i hc; cases h; exact ⟨hc.1, hc.2.1, hc.2.2.1, hc.2.2.2, hK⟩
        · cases h
      · cases h
    · cases h
  | _ =>
    simp only [xact] at h
    simp only [wact]
    split at h
    · rename_i v hv; simp only [hv]; cases h; exact hK
    · cases h
theorem xactD_sound {a : Act'} (h : xactD env d a σ = some τ) (hK : K τ) : wactD Φ d a K σ := by
  have key : xact env d a σ = some τ → wact Φ d a K σ := fun h' => xact_sound hE h' hK
  cases a with
  | lit e0 sz xs =>
    simp only [xactD] at h
    simp only [wactD]
    split at h
    · rename_i vs hv
      simp only [hv]
      split at h
      · rename_i us hu
        simp only [hu]
        split at h
        · rename_i hc; cases h; exact ⟨hc.1, hc.2, hK⟩
        · cases h
      · cases h
    · cases h
  | call f xs =>
    simp only [xactD] at h
    simp only [wactD]
    split at h
    · rename_i vs hv
      simp only [hv]
      split at h
      · rename_i us hu; simp only [hu]; exact xcallD_sound hE h hK
      · cases h
    · cases h
  | callv g xs =>
    simp only [xactD] at h
    simp only [wactD]
    split at h
    · rename_i f a b vs hg hv
      simp only [hg, hv]
      split at h
      · rename_i us hu; simp only [hu]; exact xcallD_sound hE h hK
      · cases h
    · cases h
  | callH f xs =>
    simp only [xactD] at h
    simp only [wactD]
    split at h
    · rename_i vs hv; simp only [hv]; exact xcallH_soundD hE h hK
    · cases h
  | inv => simp only [xactD] at h; cases h
  | trc => simp only [xactD] at h; cases h
  | ltr => simp only [xactD] at h; cases h
  | _ => exact key h
theorem xop_sound {o : AOp} (h : xop (xact env) o σ = some τ) (hK : K τ) : wop Φ o K σ := by
  obtain ⟨od, oa, og⟩ := o
  cases og with
  | none => exact xact_sound hE h hK
  | some p =>
    obtain ⟨t, b⟩ := p
    simp only [xop] at h
    simp only [wop]
    split at h
    · rename_i y hy
      simp only [hy]
      split at h
      · rename_i hyb
        subst hyb
        cases y
        · simp only [Bool.false_eq_true, if_false]; exact ⟨fun h' => (by cases h'), fun _ => xact_sound hE h hK⟩
        · simp only [if_true]; exact ⟨fun _ => xact_sound hE h hK, fun h' => (by cases h')⟩
      · rename_i hyb
        cases h
        cases y <;> cases b
        · exact absurd rfl hyb
        · simp only [if_true]; exact ⟨fun h' => (by cases h'), fun _ => hK⟩
        · simp only [Bool.false_eq_true, if_false]; exact ⟨fun _ => hK, fun h' => (by cases h')⟩
        · exact absurd rfl hyb
    · rename_i hy; simp only [hy]; cases h; exact hK
    · cases h
theorem xopD_sound {o : AOp} (h : xop (xactD env) o σ = some τ) (hK : K τ) : wopD Φ o K σ := by
  obtain ⟨od, oa, og⟩ := o
  cases og with
  | none => exact xactD_sound hE h hK
  | some p =>
    obtain ⟨t, b⟩ := p
    simp only [xop] at h
    simp only [wopD]
    split at h
    · rename_i y hy
      simp only [hy]
      split at h
      · rename_i hyb
        subst hyb
        cases y
        · simp only [Bool.false_eq_true, if_false]; exact ⟨fun h' => (by cases h'), fun _ => xactD_sound hE h hK⟩
        · simp only [if_true]; exact ⟨fun _ => xactD_sound hE h hK, fun h' => (by cases h')⟩
      · rename_i hyb
        cases h
        cases y <;> cases b
        · exact absurd rfl hyb
        · simp only [if_true]; exact ⟨fun h' => (by cases h'), fun _ => hK⟩
        · simp only [Bool.false_eq_true, if_false]; exact ⟨fun _ => hK, fun h' => (by cases h')⟩
        · exact absurd rfl hyb
    · rename_i hy; simp only [hy]; cases h; exact hK
    · cases h
theorem xops_sound : ∀ {os : List AOp} {σ : St}, xops (xact env) os σ = some τ → K τ → wops Φ os K σ
  | [], σ, h, hK => by simp only [xops, Option.some.injEq] at h; subst h; exact hK
  | o :: os, σ, h, hK => by
    simp only [xops] at h
    split at h
    · rename_i τ' h1; exact xop_sound hE h1 (xops_sound h hK)
    · cases h
theorem xopsD_sound : ∀ {os : List AOp} {σ : St}, xops (xactD env) os σ = some τ → K τ → wopsD Φ os K σ
  | [], σ, h, hK => by simp only [xops, Option.some.injEq] at h; subst h; exact hK
  | o :: os, σ, h, hK => by
    simp only [xops] at h
    split at h
    · rename_i τ' h1; exact xopD_sound hE h1 (xopsD_sound h hK)
    · cases h
theorem xtree_sound {ks : List Nat} : ∀ {t : OT} {σ τ : St}, xtree env ks t σ = some τ → K τ → wtree Φ t (fun σ' => K (σ'.nrm ks)) σ
  | .nil, σ, τ, h, hK => by simp only [xtree, Option.some.injEq] at h; subst h; exact hK
  | .op o t, σ, τ, h, hK => by
    simp only [xtree] at h
    split at h
    · rename_i τ' h1; exact xopD_sound hE h1 (xtree_sound h hK)
    · cases h
  | .both a b, σ, τ, h, hK => by
    simp only [xtree] at h
    split at h
    · rename_i τ1 τ2 h1 h2
      split at h
      · rename_i he
        cases h
        have := eqS_spec he
        subst this
        exact ⟨xtree_sound h1 hK, xtree_sound h2 hK⟩
      · cases h
    · cases h
omit hE in
theorem xloop_sound {f : St → Option (Ex × St)} {ks : List Nat} {c : AC} (hf : ∀ {σ : St} {e : Ex} {τ : St} {Q : Ex → St → Prop}, f σ = some (e, τ) → Q e τ → W Φ c Q σ) {Q : Ex → St → Prop} {n : Nat} {σ : St} {e : Ex} {τ : St}
    (h : xloop f ks n (σ.nrm ks) = some (e, τ)) (hQ : Q e τ) : W Φ (.loop ks c) Q σ := by
  refine ⟨fun k υ => ∃ e τ, xloop f ks k υ = some (e, τ) ∧ Q e τ, ⟨n, [], σ, rfl, e, τ, h, hQ⟩, ?_⟩
  rintro k υ ⟨e', τ', h', hQ'⟩
  cases k with
  | zero => cases h'
  | succ k =>
    simp only [xloop] at h'
    split at h'
    · rename_i τ1 h1
      exact hf h1 ⟨k, [], τ1, rfl, ⟨e', τ', h', hQ'⟩, Nat.lt_succ_self _⟩
    · rename_i e1 τ1 hne h1
      cases h'
      refine hf h1 ?_
      cases e' with
      | norm => exact (hne rfl).elim
      | _ => exact hQ'
    · cases h'
omit hE in
theorem xjump_sound {l : Nat} {f : St → Option (Ex × St)} {ks : List Nat} {a c : AC} (hf : ∀ {σ : St} {e : Ex} {τ : St} {Q : Ex → St → Prop}, f σ = some (e, τ) → Q e τ → W Φ c Q σ) {Q : Ex → St → Prop} {σ : St} {J : St}
    (ha : ∀ {Q' : Ex → St → Prop}, Q' (.goto l) J → W Φ a Q' σ) {n : Nat} {e : Ex} {τ : St} (h : xjump l f ks n (J.nrm ks) = some (e, τ)) (hQ : Q e τ) : W Φ (.scope l ks a c) Q σ := by
  refine ⟨fun k υ => ∃ e τ, xjump l f ks k υ = some (e, τ) ∧ Q e τ, ha ⟨rfl, n, [], J, rfl, e, τ, h, hQ⟩, ?_⟩
  rintro k υ ⟨e', τ', h', hQ'⟩
  cases k with
  | zero => cases h'
  | succ k =>
    simp only [xjump] at h'
    split at h'
    · rename_i l' τ1 h1
      split at h'
      · rename_i hl
        exact hf h1 ⟨hl, k, [], τ1, rfl, ⟨e', τ', h', hQ'⟩, Nat.lt_succ_self _⟩
      · cases h'
    · rename_i e1 τ1 hne h1
      cases h'
      refine hf h1 ?_
      cases e' with
      | goto l' => exact (hne l' rfl).elim
      | _ => exact hQ'
    · cases h'
theorem xcode_sound {fuel : Nat} : ∀ {c : AC} {σ : St} {e : Ex} {τ : St} {Q : Ex → St → Prop}, xcode env fuel c σ = some (e, τ) → Q e τ → W Φ c Q σ := by
  intro c
  induction c with
  | skip => intro σ e τ Q h hQ; simp only [xcode, Option.some.injEq, Prod.mk.injEq] at h; obtain ⟨rfl, rfl⟩ := h; exact hQ
  | reg ops ks =>
    intro σ e τ Q h hQ
    simp only [xcode] at h
    split at h
    · rename_i σ' h1; cases h; exact xops_sound hE h1 hQ
    · cases h
  | regD ops ks =>
    intro σ e τ Q h hQ
    simp only [xcode] at h
    split at h
    · rename_i σ' h1; cases h; exact xopsD_sound hE h1 hQ
    · cases h
  | regE => intro σ e τ Q h hQ; simp only [xcode] at h; cases h
  | regF t ks =>
    intro σ e τ Q h hQ
    simp only [xcode] at h
    split at h
    · rename_i σ' h1; cases h; exact xtree_sound hE h1 hQ
    · cases h
  | scope l ks a b iha ihb =>
    intro σ e τ Q h hQ
    simp only [xcode] at h
    split at h
    · rename_i l' J h1
      split at h
      · rename_i hl
        subst hl
        exact xjump_sound ihb (fun hq => iha h1 hq) h hQ
      · cases h
    · rename_i hne
      refine ⟨fun _ _ => False, iha h ?_, fun _ _ h => h.elim⟩
      cases e with
      | goto l' => exact (hne l' τ h).elim
      | _ => exact hQ
  | label l => intro σ e τ Q h hQ; simp only [xcode, Option.some.injEq, Prod.mk.injEq] at h; obtain ⟨rfl, rfl⟩ := h; exact hQ
  | goto l => intro σ e τ Q h hQ; simp only [xcode, Option.some.injEq, Prod.mk.injEq] at h; obtain ⟨rfl, rfl⟩ := h; exact hQ
  | bad => intro σ e τ Q h hQ; simp only [xcode] at h; cases h
  | seq a b iha ihb =>
    intro σ e τ Q h hQ
    simp only [xcode] at h
    split at h
    · rename_i τ1 h1; exact iha h1 (ihb h hQ)
    · rename_i hne
      refine iha h ?_
      cases e with
      | norm => exact (hne τ h).elim
      | _ => exact hQ
  | cond c a b iha ihb =>
    intro σ e τ Q h hQ
    simp only [xcode] at h
    rw [W_cond]
    split at h
    · rename_i t ht
      simp only [ht]
      cases t
      · exact ⟨fun h' => (by cases h'), fun _ => ihb (by simpa using h) hQ⟩
      · exact ⟨fun _ => iha (by simpa using h) hQ, fun h' => (by cases h')⟩
    · cases h
  | block id c ih =>
    intro σ e τ Q h hQ
    simp only [xcode] at h
    rw [W_block]
    split at h
    · rename_i id' τ1 h1
      refine ih h1 ?_
      rw [inBlock_exit]
      split at h
      · rename_i hi; cases h; rw [if_pos hi]; exact hQ
      · rename_i hi; cases h; rw [if_neg hi]; exact hQ
    · rename_i hne
      refine ih h ?_
      cases e with
      | exit id' => exact (hne id' τ h).elim
      | _ => exact hQ
  | loop ks c ih => intro σ e τ Q h hQ; simp only [xcode] at h; exact xloop_sound ih h hQ
  | exit id => intro σ e τ Q h hQ; simp only [xcode, Option.some.injEq, Prod.mk.injEq] at h; obtain ⟨rfl, rfl⟩ := h; exact hQ
  | ret => intro σ e τ Q h hQ; simp only [xcode, Option.some.injEq, Prod.mk.injEq] at h; obtain ⟨rfl, rfl⟩ := h; exact hQ
end

/-! ### Functions -/
/-- A function: its image, where its results lie, how many arguments it takes, which it turns. -/
structure FD where
  c : AC
  rs : List RV
  n : Nat
  ps : List Nat
structure FTab where
  p : FuncId → Option FD
  h : FuncId → Option FD
  g : FuncId → List V → Option V
def exOK : Ex → Bool
  | .exit _ => false
  | .goto _ => false
  | _ => true
def xres (rs : List RV) : Ex × St → Option (V × Bool)
  | (e, σ) => if exOK e = true then (match σ.rvs rs with
    | some vs => match purs σ.h vs with
      | some us => some (tupV us, fres σ.h vs)
      | none => none
    | none => none) else none
def pinEqB (m : List Nat) (r : List (Nat × V)) (us : List V) : List Nat → Bool
  | [] => true
  | i :: is => (match lk r i, us[i]? with
    | some v, some u => eqV (ren m v) u
    | _, _ => false) && pinEqB m r us is
def xresHM (σ : St) (ps : List Nat) (us : List V) (vs : List V) (m : List Nat) : Option (V × List (Option Ob)) :=
  if pinEqB m σ.r us ps = true then some (tupV (rens m vs), renH σ.h m m) else none
def xresH (rs : List RV) (ps : List Nat) (us : List V) : Ex × St → Option (V × List (Option Ob))
  | (e, σ) => if exOK e = true then (match σ.rvs rs with
    | some vs => xresHM σ ps us vs (lent σ.h (pvals (pk σ.r ps)) vs).2
    | none => none) else none
def xfun (T : FTab) (fuel : Nat) : Nat → Env
  | 0 => ⟨fun f us => (T.g f us).map fun r => (r, false), fun _ => none, fun _ _ _ => none⟩
  | n + 1 =>
    { p := fun f us => match T.g f us with
        | some r => some (r, false)
        | none => match T.p f with
          | some D => if us.length = D.n then (match xcode (xfun T fuel n) fuel D.c ⟨ent 0 us, []⟩ with
            | some x => xres D.rs x
            | none => none) else none
          | none => none
      ps := fun f => (T.h f).map (·.ps)
      h := fun f us H => match T.h f with
        | some D => if us.length = D.n then (match xcode (xfun T fuel n) fuel D.c ⟨ent 0 us, H⟩ with
          | some x => xresH D.rs D.ps us x
          | none => none) else none
        | none => none }

def Img (P : Program) (f : FuncId) (D : FD) : Prop := ∃ fn K E, P.funcs[f]? = some fn ∧ imageE P fn D.ps E K D.n = some (D.c, D.rs)
structure TabOK (P : Program) (T : FTab) : Prop where
  p : ∀ f D, T.p f = some D → Img P f D ∧ D.ps = []
  h : ∀ f D, T.h f = some D → Img P f D
  g : ∀ f us r, T.g f us = some r → Fn P f us r

theorem pinEqB_spec {m : List Nat} {r : List (Nat × V)} {us : List V} : ∀ {is : List Nat}, pinEqB m r us is = true → pinEq m r us is
  | [], _ => trivial
  | i :: is, h => by
    simp only [pinEqB, Bool.and_eq_true] at h
    refine ⟨?_, pinEqB_spec h.2⟩
    have h1 := h.1
    split at h1
    · rename_i v u hv hu; simp only [hv, hu]; exact eqV_spec h1
    · cases h1
theorem Res_mk {rs : List RV} {post : V → Prop} {e : Ex} {σ : St} (he : exOK e = true) (h : match σ.rvs rs with
    | some vs => match purs σ.h vs with
      | some us => post (tupV us)
      | none => False
    | none => False) : Res rs post e σ := ⟨(by cases e <;> first | trivial | cases he), h⟩
theorem ResN_mk {rs : List RV} {r : V} {e : Ex} {σ : St} (he : exOK e = true) (h : match σ.rvs rs with
    | some vs => fres σ.h vs = true ∧ (match purs σ.h vs with
      | some us => tupV us = r
      | none => False)
    | none => False) : ResN rs r e σ := ⟨(by cases e <;> first | trivial | cases he), h⟩
theorem ResH_mk {rs : List RV} {ps : List Nat} {us : List V} {r : V} {H' : List (Option Ob)} {e : Ex} {σ : St} (he : exOK e = true) (h : match σ.rvs rs with
    | some vs => resHM σ ps us r H' vs (lent σ.h (pvals (pk σ.r ps)) vs).2
    | none => False) : ResH rs ps us r H' e σ := ⟨(by cases e <;> first | trivial | cases he), h⟩
theorem FnN.of_imageE {P : Program} {f : FuncId} {fn : Func} {E : List Nat} {us : List V} {r : V} {x : AC} {K : List (List Nat)} {rs : List RV} {n : Nat} (hm : P.follows .mixedOrders = true) (hf : P.funcs[f]? = some fn)
    (hi : imageE P fn [] E K n = some (x, rs)) (hn : us.length = n) (hW : oks us → W (Cn P) x (ResN rs r) ⟨ent 0 us, []⟩) : FnN P f us r := by
  unfold imageE at hi
  split at hi
  · split at hi
    · split at hi
      · rename_i hc
        cases hi
        exact FnN.of_W hm hf ‹_› hc.1 (cCode_spec ‹_›) ‹_› (by rw [hn]; exact hc.2.1) hW
      · cases hi
    · cases hi
  · cases hi
theorem Img.of_image {P : Program} {f : FuncId} {fn : Func} {K : List (List Nat)} {n : Nat} {c : AC} {rs : List RV} (hf : P.funcs[f]? = some fn) (h : image P fn K n = some (c, rs)) : Img P f ⟨c, rs, n, []⟩ := by
  refine ⟨fn, K, [], hf, ?_⟩
  show imageE P fn [] [] K n = some (c, rs)
  unfold image at h
  unfold imageE
  cases hb : fn.body with
  | none => rw [hb] at h; cases h
  | some x =>
    rw [hb] at h
    dsimp only at h ⊢
    split at h
    · rename_i y rs' hx hr
      split at h
      · rename_i hc
        cases h
        exact if_pos ⟨hc.1, hc.2, rfl⟩
      · cases h
    · cases h
theorem Img.of_imageE {P : Program} {f : FuncId} {fn : Func} {ps E : List Nat} {K : List (List Nat)} {n : Nat} {c : AC} {rs : List RV} (hf : P.funcs[f]? = some fn) (h : imageE P fn ps E K n = some (c, rs)) : Img P f ⟨c, rs, n, ps⟩ := ⟨fn, K, E, hf, h⟩

theorem xfun_sound {P : Program} {T : FTab} (hm : P.follows .mixedOrders = true) (hT : TabOK P T) (fuel : Nat) (n : Nat) : EnvOK (xfun T fuel n) (Cn P) := by
  induction n with
  | zero =>
    refine ⟨fun f us r nw h => ?_, fun f us H r H' ps h => by simp [xfun] at h⟩
    simp only [xfun, Option.map_eq_some_iff, Prod.mk.injEq] at h
    obtain ⟨r', h1, rfl, rfl⟩ := h
    exact ⟨hT.g _ _ _ h1, fun h => by cases h⟩
  | succ n ih =>
    refine ⟨fun f us r nw h => ?_, fun f us H r H' ps h h' => ?_⟩
    · simp only [xfun] at h
      split at h
      · rename_i r' h1
        cases h
        exact ⟨hT.g _ _ _ h1, fun h => by cases h⟩
      · split at h
        · rename_i D hD
          obtain ⟨⟨fn, K, E, hf, hi⟩, hps⟩ := hT.p _ _ hD
          rw [hps] at hi
          split at h
          · rename_i hl
            split at h
            · rename_i x hx
              obtain ⟨e, σ⟩ := x
              simp only [xres] at h
              split at h
              · rename_i he
                split at h
                · rename_i vs hvs
                  split at h
                  · rename_i ws hws
                    cases h
                    exact ⟨Fn.of_imageE hm hf hi hl fun _ => xcode_sound ih hx (Res_mk he (by simp only [hvs, hws])), fun hfr => FnN.of_imageE hm hf hi hl fun _ => xcode_sound ih hx (ResN_mk he (by simp only [hvs, hws]; exact ⟨hfr, trivial⟩))⟩
                  · cases h
                · cases h
              · cases h
            · cases h
          · cases h
        · cases h
    · simp only [xfun] at h h'
      split at h'
      · rename_i D hD
        simp only [hD, Option.map_some, Option.some.injEq] at h
        subst h
        obtain ⟨fn, K, E, hf, hi⟩ := hT.h _ _ hD
        split at h'
        · rename_i hl
          split at h'
          · rename_i x hx
            obtain ⟨e, σ⟩ := x
            simp only [xresH] at h'
            split at h'
            · rename_i he
              split at h'
              · rename_i vs hvs
                unfold xresHM at h'
                split at h'
                · rename_i hp
                  cases h'
                  exact FnH.of_image hm hf hi hl fun _ _ => xcode_sound ih hx (ResH_mk he (by simp only [hvs]; exact ⟨pinEqB_spec hp, rfl, rfl⟩))
                · cases h'
              · cases h'
            · cases h'
          · cases h'
        · cases h'
      · cases h'
end Go.Abs
