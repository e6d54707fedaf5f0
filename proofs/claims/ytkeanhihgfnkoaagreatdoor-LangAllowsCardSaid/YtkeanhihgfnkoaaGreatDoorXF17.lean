/-
  What strainerref09's matching tells: tables of truth values. No condition.
  What strainerref09's step and Match tell: which places a part leads to. No condition.
  What strainerref09's Match tells. No condition.
  What strainerref09's parser makes: its small functions. No condition.
  What strainerref09's class makes: a set of signs. No condition.
  What strainerref09's parser makes: atoms, pieces, branches. No condition.
  What strainerref09's Parse and strainerref12's Allows answer. No condition.
  What strainerref09's tables mean: languages of words between two places. No condition.
  What the reference's Allows tells is whether an expression matches. No condition.
  The small functions of layer 12's statements; lang's Allows of schemes; the least value that is allowed. No condition.
-/
import Derived.Test.YtkeanhihgfnkoaaGreatDoorXF1
import Derived.Test.YtkeanhihgfnkoaaGreatDoorXTh10
import Derived.Test.YtkeanhihgfnkoaaGreatDoorXTh6
set_option linter.unusedVariables false
set_option linter.unusedSimpArgs false
set_option linter.unusedSectionVars false
section
set_option maxHeartbeats 4000000
set_option maxRecDepth 100000
namespace Go.Abs.F
open Go.Proofs
attribute [-simp] getElem?_pos Option.not_isSome
def tab {α : Type} (n : Nat) (F : Nat → α) : List α := (List.range n).map F
section
variable {α β : Type} {n i : Nat} {F G : Nat → α}
theorem tab_len : (tab n F).length = n := by simp [tab]
theorem tab_get (h : i < n) : (tab n F)[i]? = some (F i) := by simp only [tab, List.getElem?_map, List.getElem?_range h, Option.map_some]
theorem tab_ge (h : n ≤ i) : (tab n F)[i]? = none := by rw [List.getElem?_eq_none]; rw [tab_len]; exact h
theorem tab_set {x : α} : (tab n F).set i x = tab n (fun j => if j = i then x else F j) := by
 apply List.ext_getElem?
 intro j
 rw [List.getElem?_set, tab_len]
 by_cases h : j < n
 · rw [tab_get h, tab_get h]
   by_cases hj : i = j
   · subst hj; simp [h]
   · rw [if_neg hj, if_neg (fun e => hj e.symm)]
 · rw [tab_ge (by omega), tab_ge (by omega)]
   split <;> simp_all
theorem tab_congr (h : ∀ i, i < n → F i = G i) : tab n F = tab n G := by
 unfold tab
 exact List.map_congr_left fun i hi => h i (by simpa using hi)
theorem tab_rep {x : α} : List.replicate n x = tab n (fun _ => x) := by rw [tab, List.map_const', List.length_range]
theorem tab_map {g : α → β} : (tab n F).map g = tab n (fun i => g (F i)) := by simp [tab]
end
attribute [simp] tab_len tab_get tab_set tab_map
def rowV (n : Nat) (f : Nat → Bool) : List V := tab n fun k => .bool (f k)
def matV (n : Nat) (f : Nat → Nat → Bool) : V := .seq 1 (tab n fun i => .seq 1 (rowV n (f i)))
theorem rowV_get {n k : Nat} {f : Nat → Bool} (h : k < n) : (rowV n f)[k]? = some (.bool (f k)) := by simp [rowV, h]
theorem rowV_len {n : Nat} {f : Nat → Bool} : (rowV n f).length = n := by simp [rowV]
def sub (k : Nat) (b : Bool) (f : Nat → Bool) (j : Nat) : Bool := if j = k then b else f j
theorem rowV_set {n k : Nat} {f : Nat → Bool} {b : Bool} : (rowV n f).set k (.bool b) = rowV n (sub k b f) := by
 simp only [rowV, tab_set]
 exact tab_congr fun j _ => by unfold sub; split <;> rfl
theorem rowV_rep {n : Nat} : List.replicate n (V.bool false) = rowV n (fun _ => false) := by simp [rowV, tab_rep]
theorem rowV_congr {n : Nat} {f g : Nat → Bool} (h : ∀ k, k < n → f k = g k) : rowV n f = rowV n g := tab_congr fun k hk => by rw [h k hk]
theorem rowV_flat {n : Nat} {f : Nat → Bool} : flats (rowV n f) = true := by
 unfold rowV tab
 induction List.range n with
 | nil => rfl
 | cons x l ih => simp [flats, flat, ih]
attribute [simp] rowV_get rowV_len rowV_set rowV_rep rowV_flat
def half (n i : Nat) (R : Nat → List V) : List (List V) := tab n fun j => if j < i then R j else []
def step1 (n i : Nat) (R : Nat → List V) (r : List V) : List (List V) := tab n fun j => if j = i then r else if j < i then R j else []
theorem half_len {n i : Nat} {R : Nat → List V} : (half n i R).length = n := by simp [half]
theorem step1_len {n i : Nat} {R : Nat → List V} {r : List V} : (step1 n i R r).length = n := by simp [step1]
theorem half_get {n i : Nat} {R : Nat → List V} (h : i < n) : (half n i R)[i]? = some [] := by simp [half, h]
theorem step1_get {n i : Nat} {R : Nat → List V} {r : List V} (h : i < n) : (step1 n i R r)[i]? = some r := by simp [step1, h]
theorem half_set {n i : Nat} {R : Nat → List V} {r : List V} : (half n i R).set i r = step1 n i R r := by simp [half, step1]
theorem step1_set {n i : Nat} {R : Nat → List V} {r s : List V} : (step1 n i R r).set i s = step1 n i R s := by
 simp only [step1, tab_set]
 exact tab_congr fun j _ => by by_cases h : j = i <;> simp [h]
theorem step1_half {n i : Nat} {R : Nat → List V} : step1 n i R (R i) = half n (i + 1) R := by
 refine tab_congr fun j _ => ?_
 by_cases h : j = i
 · subst h; simp
 · simp only [if_neg h]
   by_cases h' : j < i
   · rw [if_pos h', if_pos (by omega)]
   · rw [if_neg h', if_neg (by omega)]
theorem half_rep {n : Nat} {R : Nat → List V} : List.replicate n ([] : List V) = half n 0 R := by simp [half, tab_rep]
theorem half_all {n : Nat} {R : Nat → List V} : half n n R = tab n R := tab_congr fun j h => by rw [if_pos h]
attribute [simp] half_len step1_len half_get step1_get half_set step1_set
def upto (k : Nat) (F : Nat → Bool) (c : Nat) : Bool := if c < k then F c else false
theorem upto_all {n : Nat} {F : Nat → Bool} : rowV n (upto n F) = rowV n F := rowV_congr fun c hc => by rw [upto, if_pos hc]
theorem upto_none {n : Nat} {F : Nat → Bool} : rowV n (fun _ => false) = rowV n (upto 0 F) := rowV_congr fun c hc => by rw [upto, if_neg (by omega)]
theorem upto_step {n k : Nat} {F : Nat → Bool} {b : Bool} (h : b = F k) : rowV n (sub k b (upto k F)) = rowV n (upto (k + 1) F) := rowV_congr fun c hc => by
 simp only [upto, sub]
 by_cases h1 : c = k
 · subst h1; rw [if_pos rfl, if_pos (by omega), h]
 · rw [if_neg h1]
   by_cases h2 : c < k
   · rw [if_pos h2, if_pos (by omega)]
   · rw [if_neg h2, if_neg (by omega)]
theorem f_ref09_both (n : Nat) (f g : Nat → Nat → Bool) (hn : n ≤ 1000000) : FnN Tryz.prog n_ref09_both [matV n f, matV n g] (matV n fun i k => f i k || g i k) := by
 refine FnN.of_image mixed h_ref09_both i_ref09_both rfl fun ho => ?_
 unfold c_ref09_both
 clear ho
 simp only [matV]
 simp (disch := omega) [-List.reduceReplicate]
 generalize hR : (fun i => rowV n fun k => f i k || g i k) = R
 have hRi : ∀ i, R i = rowV n fun k => f i k || g i k := fun i => by rw [← hR]
 rw [half_rep (R := R)]
 refine W_loop (fun i : Nat => ⟨[(0, .seq 1 (tab n fun i => .seq 1 (rowV n (f i)))), (1, .seq 1 (tab n fun i => .seq 1 (rowV n (g i)))), (5, .ref 0 n), (6, .int .i64 i)],
  [some (.mat ty_Ibool ty_bool 1 (sm (half n i R)))]⟩) (fun i => i ≤ n) (fun i => n - i) [] _ 0 rfl (by simp) (by simp) ?_
 rintro i hi N hN
 rcases Nat.lt_or_ge i n with hlt | hge
 · simp (disch := omega) [-List.reduceReplicate]
   rw [upto_none (F := fun c => f i c || g i c)]
   refine W_loop (fun k : Nat => ⟨[(0, .seq 1 (tab n fun i => .seq 1 (rowV n (f i)))), (1, .seq 1 (tab n fun i => .seq 1 (rowV n (g i)))), (5, .ref 0 n), (6, .int .i64 i), (7, .int .i64 k)],
    [some (.mat ty_Ibool ty_bool 1 (sm (step1 n i R (rowV n (upto k fun c => f i c || g i c)))))]⟩) (fun k => k ≤ n) (fun k => n - k) [] _ 0 rfl (by simp) (by simp) ?_
   rintro k hk M hM
   rcases Nat.lt_or_ge k n with hlt2 | hge2
   · simp (disch := omega) [-List.reduceReplicate]
     refine BrK.mk (fun h => ?_) (fun h => ?_)
     all_goals
      simp (disch := omega) [-List.reduceReplicate, h]
      rw [upto_step (by simp [h])]
      exact hM.out _ <| Nx.mk (k + 1) (by simp) (by omega) (by omega)
   · have : k = n := by omega
     subst this
     simp (disch := omega) [-List.reduceReplicate]
     rw [upto_all, ← hRi, step1_half]
     exact hN.out _ <| Nx.mk (i + 1) (by simp) (by omega) (by omega)
 · have : i = n := by omega
   subst this
   simp (disch := omega) [-List.reduceReplicate, half_all]
   refine ⟨fun x hx => ?_, ?_⟩
   · simp only [tab, List.mem_map] at hx
     obtain ⟨j, _, rfl⟩ := hx
     rw [hRi]; exact rowV_flat
   · exact tab_congr fun j _ => by rw [hRi]
def jo (f g : Nat → Nat → Bool) (i m c : Nat) : Bool := (List.range m).any fun x => decide (x ≤ c) && (f i x && g x c)
theorem jo_succ {f g : Nat → Nat → Bool} {i m c : Nat} : jo f g i (m + 1) c = (jo f g i m c || (decide (m ≤ c) && (f i m && g m c))) := by
 simp only [jo, List.range_succ, List.any_append]
 simp
def mixd (k : Nat) (F G : Nat → Bool) (c : Nat) : Bool := if c < k then F c else G c
theorem mixd_at {k : Nat} {F G : Nat → Bool} : mixd k F G k = G k := by simp [mixd]
theorem mixd_all {n : Nat} {F G : Nat → Bool} : rowV n (mixd n F G) = rowV n F := rowV_congr fun c hc => by rw [mixd, if_pos hc]
theorem mixd_eq {n k : Nat} {F G : Nat → Bool} (h : ∀ c, c < k → F c = G c) : rowV n (mixd k F G) = rowV n G := rowV_congr fun c hc => by
 unfold mixd
 split
 · exact h c (by assumption)
 · rfl
theorem mixd_step {n k : Nat} {F G : Nat → Bool} {b : Bool} (h : b = F k) : rowV n (sub k b (mixd k F G)) = rowV n (mixd (k + 1) F G) := rowV_congr fun c hc => by
 simp only [mixd, sub]
 by_cases h1 : c = k
 · subst h1; rw [if_pos rfl, if_pos (by omega), h]
 · rw [if_neg h1]
   by_cases h2 : c < k
   · rw [if_pos h2, if_pos (by omega)]
   · rw [if_neg h2, if_neg (by omega)]
theorem f_ref09_joined (n : Nat) (f g : Nat → Nat → Bool) (hn : n ≤ 1000000) : FnN Tryz.prog n_ref09_joined [matV n f, matV n g] (matV n fun i k => jo f g i n k) := by
 refine FnN.of_image mixed h_ref09_joined i_ref09_joined rfl fun ho => ?_
 unfold c_ref09_joined
 clear ho
 simp only [matV]
 simp (disch := omega) [-List.reduceReplicate]
 generalize hR : (fun i => rowV n fun k => jo f g i n k) = R
 have hRi : ∀ i, R i = rowV n fun k => jo f g i n k := fun i => by rw [← hR]
 rw [half_rep (R := R)]
 refine W_loop (fun i : Nat => ⟨[(0, .seq 1 (tab n fun i => .seq 1 (rowV n (f i)))), (1, .seq 1 (tab n fun i => .seq 1 (rowV n (g i)))), (5, .ref 0 n), (6, .int .i64 i)],
  [some (.mat ty_Ibool ty_bool 1 (sm (half n i R)))]⟩) (fun i => i ≤ n) (fun i => n - i) [] _ 0 rfl (by simp) (by simp) ?_
 rintro i hi N hN
 rcases Nat.lt_or_ge i n with hlt | hge
 · simp (disch := omega) [-List.reduceReplicate]
   have e0 : rowV n (fun _ => false) = rowV n (jo f g i 0) := rowV_congr fun c _ => rfl
   rw [e0]
   refine W_loop (fun m : Nat => ⟨[(0, .seq 1 (tab n fun i => .seq 1 (rowV n (f i)))), (1, .seq 1 (tab n fun i => .seq 1 (rowV n (g i)))), (5, .ref 0 n), (6, .int .i64 i), (7, .int .i64 m)],
    [some (.mat ty_Ibool ty_bool 1 (sm (step1 n i R (rowV n (jo f g i m)))))]⟩) (fun m => m ≤ n) (fun m => n - m) [] _ 0 rfl (by simp) (by simp) ?_
   rintro m hm M hM
   rcases Nat.lt_or_ge m n with hlt2 | hge2
   · simp (disch := omega) [-List.reduceReplicate]
     have e1 : rowV n (jo f g i m) = rowV n (mixd m (jo f g i (m + 1)) (jo f g i m)) := (mixd_eq fun c hc => by rw [jo_succ]; simp; omega).symm
     rw [e1]
     refine W_loop (fun k : Nat => ⟨[(0, .seq 1 (tab n fun i => .seq 1 (rowV n (f i)))), (1, .seq 1 (tab n fun i => .seq 1 (rowV n (g i)))), (5, .ref 0 n), (6, .int .i64 i), (7, .int .i64 m), (8, .int .i64 k)],
      [some (.mat ty_Ibool ty_bool 1 (sm (step1 n i R (rowV n (mixd k (jo f g i (m + 1)) (jo f g i m))))))]⟩) (fun k => m ≤ k ∧ k ≤ n ∧ (f i m = false → k = m)) (fun k => n - k) [] _ m rfl (by simp) (by simp; omega) ?_
     rintro k ⟨hk, hk2, hkf⟩ L hL
     have last : rowV n (mixd k (jo f g i (m + 1)) (jo f g i m)) = rowV n (jo f g i (m + 1)) → ∀ τ : St, τ.nrm [0, 1, 5, 6, 7] = ⟨[(0, .seq 1 (tab n fun i => .seq 1 (rowV n (f i)))), (1, .seq 1 (tab n fun i => .seq 1 (rowV n (g i)))), (5, .ref 0 n), (6, .int .i64 i), (7, .int .i64 ((m + 1 : Nat) : Int))],
      [some (.mat ty_Ibool ty_bool 1 (sm (step1 n i R (rowV n (mixd k (jo f g i (m + 1)) (jo f g i m))))))]⟩ → M τ := fun h τ hτ => by
      rw [h] at hτ
      exact hM.out _ <| Nx.mk (m + 1) hτ (by omega) (by omega)
     cases hf : f i m with
     | false =>
       have hkm := hkf hf
       subst hkm
       replace last := last (by rw [mixd_eq fun c hc => by rw [jo_succ]; simp; omega]; exact rowV_congr fun c _ => by rw [jo_succ, hf]; simp)
       simp (disch := omega) [-List.reduceReplicate, hf]
       exact last _ (by simp)
     | true =>
       rcases Nat.lt_or_ge k n with hlt3 | hge3
       · simp (disch := omega) [-List.reduceReplicate, hf, mixd_at]
         refine BrK.mk (fun h => ?_) (fun h => ?_)
         all_goals
          simp (disch := omega) [-List.reduceReplicate, h]
          rw [mixd_step (by rw [jo_succ, h, hf]; simp [hk])]
          exact hL.out _ <| Nx.mk (k + 1) (by simp) ⟨by omega, by omega, fun h => by rw [hf] at h; cases h⟩ (by omega)
       · have : k = n := by omega
         subst this
         replace last := last mixd_all
         simp (disch := omega) [-List.reduceReplicate, hf]
         exact last _ (by simp)
   · have : m = n := by omega
     subst this
     simp (disch := omega) [-List.reduceReplicate]
     rw [← hRi, step1_half]
     exact hN.out _ <| Nx.mk (i + 1) (by simp) (by omega) (by omega)
 · have : i = n := by omega
   subst this
   simp (disch := omega) [-List.reduceReplicate, half_all]
   refine ⟨fun x hx => ?_, ?_⟩
   · simp only [tab, List.mem_map] at hx
     obtain ⟨j, _, rfl⟩ := hx
     rw [hRi]; exact rowV_flat
   · exact tab_congr fun j _ => by rw [hRi]
end Go.Abs.F
end
section
set_option maxHeartbeats 4000000
set_option maxRecDepth 100000
namespace Go.Abs.F
open Go.Proofs
attribute [-simp] getElem?_pos Option.not_isSome
structure Part where
 op : Nat
 set : List Bool
 l : List Nat
def Part.v (p : Part) : V := .strct [.int .u8 p.op, .seq 1 (p.set.map .bool), .seq 1 (p.l.map fun (j : Nat) => V.int .i64 (j : Int))]
def sgn (c : UInt8) : Bool := decide (32 ≤ c.toNat) && decide (c.toNat ≤ 126)
theorem f_ref09_sign (c : UInt8) : Fn Tryz.prog n_ref09_sign [.int .u8 c.toNat] (.bool (sgn c)) := by
 refine Fn.of_image mixed h_ref09_sign i_ref09_sign rfl fun ho => ?_
 unfold c_ref09_sign
 simp only [oks, ok, and_true] at ho
 simp (disch := omega) [-List.reduceReplicate]
 refine BrKd.mk (fun h => ?_) (fun h => ?_)
 all_goals
  simp [sgn, h]
def base (p : Part) (s : Str) (i : Nat) : Nat → Bool :=
 match s[i]? with
 | some c => if p.op = 115 ∧ sgn c = true then sub (i + 1) ((p.set[c.toNat - 32]?).getD false) (sub i (decide (p.op = 116) || decide (p.op = 109)) fun _ => false) else sub i (decide (p.op = 116) || decide (p.op = 109)) fun _ => false
 | none => sub i (decide (p.op = 116) || decide (p.op = 109)) fun _ => false
abbrev Tab := Nat → Nat → Bool
def both1 (f g : Tab) : Tab := fun i k => f i k || g i k
def jon (n : Nat) (f g : Tab) : Tab := fun i k => jo f g i n k
def star (n : Nat) (g : Tab) : Nat → Tab → Tab
 | 0, f => f
 | t + 1, f => star n g t (both1 f (jon n f g))
def kid (n op : Nat) (f g : Tab) : Tab := if op = 111 then both1 f g else if op = 116 then jon n f g else if op = 109 then star n g n f else f
def kidT (n op : Nat) (tabs : List Tab) : Tab → List Nat → Tab
 | f, [] => f
 | f, x :: l => kidT n op tabs (kid n op f ((tabs[x]?).getD fun _ _ => false)) l
def stepT (p : Part) (s : Str) (tabs : List Tab) : Tab   := kidT (s.length + 1) p.op tabs (base p s) p.l
@[simp high] theorem cl_matV {n : Nat} {f : Tab} : cl (matV n f) = [matV n f] := rfl
def outS (n : Nat) (f : Tab) (o : V) (h : List (Option Ob)) : Prop := (o = .ref 0 n ∧ h = [some (.mat ty_Ibool ty_bool 1 (sm (tab n fun i => rowV n (f i))))]) ∨ (o = .fseq 1 (tab n fun i => .seq 1 (rowV n (f i))) ∧ h = [])
theorem f_ref09_step (parts : List Part) (k : Nat) (p : Part) (s : Str) (tabs : List Tab) (hp : parts[k]? = some p) (hs : s.length ≤ 999999) (hl : ∀ x ∈ p.l, x < tabs.length) (hset : p.op = 115 → p.set.length = 95) (hll : p.l.length ≤ 1000) :
 FnN Tryz.prog n_ref09_step [.seq 3 (parts.map Part.v), .int .i64 k, .str s, .seq 1 (tabs.map (matV (s.length + 1)))] (matV (s.length + 1) (stepT p s tabs)) := by
 refine FnN.of_image mixed h_ref09_step i_ref09_step rfl fun ho => ?_
 unfold c_ref09_step
 clear ho
 obtain ⟨n, hn⟩ : ∃ n, n = s.length + 1 := ⟨_, rfl⟩
 simp only [← hn]
 simp (disch := omega) [-List.reduceReplicate]
 rw [half_rep (R := fun i => rowV n (base p s i))]
 have hpv : (parts.map Part.v)[k]? = some p.v := by rw [List.getElem?_map, hp]; rfl
 have hn' : (s.length : Int) + 1 = (n : Int) := by omega
 simp only [hn', Int.toNat_natCast]
 refine W_loop (fun i : Nat => ⟨[(0, .seq 3 (parts.map Part.v)), (1, .int .i64 k), (2, .str s), (3, .seq 1 (tabs.map (matV n))), (9, .int .i64 n), (10, .ref 0 n), (11, .int .i64 i)],
  [some (.mat ty_Ibool ty_bool 1 (sm (half n i fun i => rowV n (base p s i))))]⟩) (fun i => i ≤ n) (fun i => n - i) [] _ 0 rfl (by simp [← hn]) (by simp) ?_
 rintro i hi N hN
 rcases Nat.lt_or_ge i n with hlt | hge
 · replace hN := fun (r : List V) (hr : r = rowV n (base p s i)) τ (hτ : τ.nrm [0, 1, 2, 3, 9, 10, 11] = ⟨[(0, .seq 3 (parts.map Part.v)), (1, .int .i64 k), (2, .str s), (3, .seq 1 (tabs.map (matV n))), (9, .int .i64 n), (10, .ref 0 n), (11, .int .i64 ((i + 1 : Nat) : Int))],
    [some (.mat ty_Ibool ty_bool 1 (sm (step1 n i (fun i => rowV n (base p s i)) r)))]⟩) => hN.out τ <| Nx.mk (i + 1) (by rw [hτ, hr, step1_half]) (by omega) (by omega)
   replace hN := hid hN
   by_cases h115 : p.op = 115
   · have h116 : ¬ p.op = 116 := by omega
     have h109 : ¬ p.op = 109 := by omega
     rcases Nat.lt_or_ge i s.length with hil | hil
     · obtain ⟨c, hc⟩ := get_lt hil
       simp (disch := omega) [-List.reduceReplicate, hpv, Part.v, h115, h116, h109, hc]
       refine wcall_flat (f_ref09_sign c) rfl fun _ => ?_
       cases hg : sgn c with
       | true =>
         have hg2 : 32 ≤ c.toNat ∧ c.toNat ≤ 126 := by simpa [sgn] using hg
         obtain ⟨b, hb⟩ := get_lt (l := p.set) (k := c.toNat - 32) (by rw [hset h115]; omega)
         have e2 : ((c.toNat : Int) - 32).toNat = c.toNat - 32 := by omega
         simp (disch := omega) [-List.reduceReplicate, hpv, Part.v, h115, h116, h109, hc, hb, e2]
         exact hN.out (rowV n (sub (i + 1) b (sub i false fun _ => false))) (by simp [base, hc, hg, h115, hb]) _ (by simp)
       | false =>
         simp (disch := omega) [-List.reduceReplicate, hpv, Part.v, h115, h116, h109, hc]
         exact hN.out (rowV n (sub i false fun _ => false)) (by simp [base, hc, hg, h115]) _ (by simp)
     · have hc : s[i]? = none := List.getElem?_eq_none (by omega)
       simp (disch := omega) [-List.reduceReplicate, hpv, Part.v, h115, h116, h109, hc]
       exact hN.out (rowV n (sub i false fun _ => false)) (by simp [base, hc, h115]) _ (by simp)
   · have hb : base p s i = sub i (decide (p.op = 116) || decide (p.op = 109)) fun _ => false := by
      unfold base
      split
      · rw [if_neg (by simp [h115])]
      · rfl
     by_cases h116 : p.op = 116
     · simp (disch := omega) [-List.reduceReplicate, hpv, Part.v, h115, h116]
       exact hN.out (rowV n (sub i true fun _ => false)) (by simp [hb, h116]) _ (by simp)
     · by_cases h109 : p.op = 109
       · simp (disch := omega) [-List.reduceReplicate, hpv, Part.v, h115, h116, h109]
         exact hN.out (rowV n (sub i true fun _ => false)) (by simp [hb, h109]) _ (by simp)
       · simp (disch := omega) [-List.reduceReplicate, hpv, Part.v, h115, h116, h109]
         exact hN.out (rowV n (sub i false fun _ => false)) (by simp [hb, h116, h109]) _ (by simp)
 · have hin : i = n := by omega
   rw [hin, half_all]
   clear hN hin hi hge
   simp (disch := omega) [-List.reduceReplicate]
   obtain ⟨T, hT⟩ : ∃ T, T = stepT p s tabs := ⟨_, rfl⟩
   rw [← hT]
   simp only [stepT, ← hn] at hT
   refine W_loop (fun (q : Nat × Tab × V × List (Option Ob)) => ⟨[(0, .seq 3 (parts.map Part.v)), (1, .int .i64 k), (3, .seq 1 (tabs.map (matV n))), (9, .int .i64 n), (10, q.2.2.1), (12, .int .i64 q.1)], q.2.2.2⟩)
    (fun q => q.1 ≤ p.l.length ∧ outS n q.2.1 q.2.2.1 q.2.2.2 ∧ kidT n p.op tabs q.2.1 (p.l.drop q.1) = T) (fun q => p.l.length - q.1) [] _ (0, base p s, .ref 0 n, [some (.mat ty_Ibool ty_bool 1 (sm (tab n fun i => rowV n (base p s i))))]) rfl (by simp) ⟨by simp, .inl ⟨rfl, rfl⟩, by simp [hT]⟩ ?_
   rintro ⟨j, f, o, h⟩ ⟨hj, ho, hk⟩ N hN
   simp only at hj ho hk
   rcases place p.l j hj with ⟨he, hd⟩ | ⟨hlt, x, hx, hd⟩ <;> rw [hd, kidT] at hk
   · subst hk
     clear hN
     have hfl : ∀ x ∈ tab n (fun i => rowV n (f i)), flats x = true := by
      intro x hx
      simp only [tab, List.mem_map] at hx
      obtain ⟨j, _, rfl⟩ := hx
      exact rowV_flat
     rcases ho with ⟨rfl, rfl⟩ | ⟨rfl, rfl⟩
     all_goals
      simp (disch := omega) [-List.reduceReplicate, hpv, Part.v, he]
     · exact ⟨hfl, by simp [matV]⟩
     · simp [matV]
   · have hxt := hl x (List.mem_of_getElem? hx)
     obtain ⟨g, hg⟩ := get_lt hxt
     have hlx : (p.l.map fun (j : Nat) => V.int .i64 (j : Int))[j]? = some (.int .i64 (x : Int)) := by rw [List.getElem?_map, hx]; rfl
     rw [hg] at hk
     simp only [Option.getD_some] at hk
     replace hk := hid hk
     replace hN := fun (f' : Tab) (hf : kid n p.op f g = f') τ (o' : V) (h' : List (Option Ob)) (hτ : τ.nrm [0, 1, 3, 9, 10, 12] = ⟨[(0, .seq 3 (parts.map Part.v)), (1, .int .i64 k), (3, .seq 1 (tabs.map (matV n))), (9, .int .i64 n), (10, o'), (12, .int .i64 ((j + 1 : Nat) : Int))], h'⟩) (ho : outS n f' o' h') =>
      hN.out τ <| Nx.mk (j + 1, f', o', h') hτ ⟨by simp only; omega, ho, by simp only; rw [← hf]; exact hk.out⟩ (by simp only; omega)
     replace hN := hid hN
     by_cases h111 : p.op = 111
     · rcases ho with ⟨rfl, rfl⟩ | ⟨rfl, rfl⟩
       all_goals
        simp (disch := omega) [-List.reduceReplicate, hpv, Part.v, hlx, hg, h111, matV]
        refine wcall_fresh (f_ref09_both n f g (by omega)) fun _ => ?_
        simp (disch := omega) [-List.reduceReplicate, matV]
        exact hN.out (both1 f g) (by simp [kid, h111]) _ (.fseq 1 (tab n fun i => .seq 1 (rowV n (both1 f g i)))) [] (by simp; rfl) (.inr ⟨rfl, rfl⟩)
     · by_cases h116 : p.op = 116
       · rcases ho with ⟨rfl, rfl⟩ | ⟨rfl, rfl⟩
         all_goals
          simp (disch := omega) [-List.reduceReplicate, hpv, Part.v, hlx, hg, h111, h116, matV]
          refine wcall_fresh (f_ref09_joined n f g (by omega)) fun _ => ?_
          simp (disch := omega) [-List.reduceReplicate, matV]
          exact hN.out (jon n f g) (by simp [kid, h116]) _ (.fseq 1 (tab n fun i => .seq 1 (rowV n (jon n f g i)))) [] (by simp; rfl) (.inr ⟨rfl, rfl⟩)
       · by_cases h109 : p.op = 109
         · rcases ho with ⟨rfl, rfl⟩ | ⟨rfl, rfl⟩
           · simp (disch := omega) [-List.reduceReplicate, hpv, Part.v, hlx, hg, h111, h116, h109, matV]
             refine W_loop (fun (q : Nat × Tab × V × List (Option Ob)) => ⟨[(0, .seq 3 (parts.map Part.v)), (1, .int .i64 k), (3, .seq 1 (tabs.map (matV n))), (9, .int .i64 n), (10, q.2.2.1), (12, .int .i64 j), (13, .seq 1 (tab n fun i => .seq 1 (rowV n (g i)))), (14, .int .i64 q.1)], q.2.2.2⟩)
              (fun q => q.1 ≤ n ∧ outS n q.2.1 q.2.2.1 q.2.2.2 ∧ star n g (n - q.1) q.2.1 = kid n p.op f g) (fun q => n - q.1) [] _ (0, f, .ref 0 n, [some (.mat ty_Ibool ty_bool 1 (sm (tab n fun i => rowV n (f i))))]) rfl (by simp [matV]) ⟨by simp, .inl ⟨rfl, rfl⟩, by simp [kid, h109]⟩ ?_
             rintro ⟨t, f2, o2, h2⟩ ⟨ht, ho2, hk2⟩ L hL
             simp only at ht ho2 hk2
             rcases Nat.lt_or_ge t n with htn | htn
             · have e : n - t = (n - (t + 1)) + 1 := by omega
               rw [e, star] at hk2
               replace hk2 := hid hk2
               have nx : ∀ τ : St, τ.nrm [0, 1, 3, 9, 10, 12, 13, 14] = ⟨[(0, .seq 3 (parts.map Part.v)), (1, .int .i64 k), (3, .seq 1 (tabs.map (matV n))), (9, .int .i64 n), (10, .fseq 1 (tab n fun i => .seq 1 (rowV n (both1 f2 (jon n f2 g) i)))), (12, .int .i64 j), (13, .seq 1 (tab n fun i => .seq 1 (rowV n (g i)))), (14, .int .i64 ((t + 1 : Nat) : Int))], []⟩ → L τ := fun τ hτ =>
                hL.out τ <| Nx.mk (t + 1, both1 f2 (jon n f2 g), _, []) hτ ⟨by simp only; omega, .inr ⟨rfl, rfl⟩, hk2.out⟩ (by simp only; omega)
               replace nx := hid nx
               rcases ho2 with ⟨rfl, rfl⟩ | ⟨rfl, rfl⟩
               all_goals
                simp (disch := omega) [-List.reduceReplicate]
                refine wcall_fresh (f_ref09_joined n f2 g (by omega)) fun _ => ?_
                simp (disch := omega) [-List.reduceReplicate, matV]
                refine wcall_fresh (f_ref09_both n f2 (jon n f2 g) (by omega)) fun _ => ?_
                simp (disch := omega) [-List.reduceReplicate, matV]
                exact nx.out _ (by simp; rfl)
             · have e : n - t = 0 := by omega
               rw [e, star] at hk2
               replace hN := hN.out f2 hk2.symm
               clear hL
               rcases ho2 with ⟨rfl, rfl⟩ | ⟨rfl, rfl⟩
               · simp (disch := omega) [-List.reduceReplicate, htn]
                 exact hN _ _ _ (by simp) (.inl ⟨rfl, rfl⟩)
               · simp (disch := omega) [-List.reduceReplicate, htn]
                 exact hN _ _ _ (by simp) (.inr ⟨rfl, rfl⟩)
           · simp (disch := omega) [-List.reduceReplicate, hpv, Part.v, hlx, hg, h111, h116, h109, matV]
             refine W_loop (fun (q : Nat × Tab × V × List (Option Ob)) => ⟨[(0, .seq 3 (parts.map Part.v)), (1, .int .i64 k), (3, .seq 1 (tabs.map (matV n))), (9, .int .i64 n), (10, q.2.2.1), (12, .int .i64 j), (13, .seq 1 (tab n fun i => .seq 1 (rowV n (g i)))), (14, .int .i64 q.1)], q.2.2.2⟩)
              (fun q => q.1 ≤ n ∧ outS n q.2.1 q.2.2.1 q.2.2.2 ∧ star n g (n - q.1) q.2.1 = kid n p.op f g) (fun q => n - q.1) [] _ (0, f, .fseq 1 (tab n fun i => .seq 1 (rowV n (f i))), []) rfl (by simp [matV]) ⟨by simp, .inr ⟨rfl, rfl⟩, by simp [kid, h109]⟩ ?_
             rintro ⟨t, f2, o2, h2⟩ ⟨ht, ho2, hk2⟩ L hL
             simp only at ht ho2 hk2
             rcases Nat.lt_or_ge t n with htn | htn
             · have e : n - t = (n - (t + 1)) + 1 := by omega
               rw [e, star] at hk2
               replace hk2 := hid hk2
               have nx : ∀ τ : St, τ.nrm [0, 1, 3, 9, 10, 12, 13, 14] = ⟨[(0, .seq 3 (parts.map Part.v)), (1, .int .i64 k), (3, .seq 1 (tabs.map (matV n))), (9, .int .i64 n), (10, .fseq 1 (tab n fun i => .seq 1 (rowV n (both1 f2 (jon n f2 g) i)))), (12, .int .i64 j), (13, .seq 1 (tab n fun i => .seq 1 (rowV n (g i)))), (14, .int .i64 ((t + 1 : Nat) : Int))], []⟩ → L τ := fun τ hτ =>
                hL.out τ <| Nx.mk (t + 1, both1 f2 (jon n f2 g), _, []) hτ ⟨by simp only; omega, .inr ⟨rfl, rfl⟩, hk2.out⟩ (by simp only; omega)
               replace nx := hid nx
               rcases ho2 with ⟨rfl, rfl⟩ | ⟨rfl, rfl⟩
               all_goals
                simp (disch := omega) [-List.reduceReplicate]
                refine wcall_fresh (f_ref09_joined n f2 g (by omega)) fun _ => ?_
                simp (disch := omega) [-List.reduceReplicate, matV]
                refine wcall_fresh (f_ref09_both n f2 (jon n f2 g) (by omega)) fun _ => ?_
                simp (disch := omega) [-List.reduceReplicate, matV]
                exact nx.out _ (by simp; rfl)
             · have e : n - t = 0 := by omega
               rw [e, star] at hk2
               replace hN := hN.out f2 hk2.symm
               clear hL
               rcases ho2 with ⟨rfl, rfl⟩ | ⟨rfl, rfl⟩
               · simp (disch := omega) [-List.reduceReplicate, htn]
                 exact hN _ _ _ (by simp) (.inl ⟨rfl, rfl⟩)
               · simp (disch := omega) [-List.reduceReplicate, htn]
                 exact hN _ _ _ (by simp) (.inr ⟨rfl, rfl⟩)
         · rcases ho with ⟨rfl, rfl⟩ | ⟨rfl, rfl⟩
           all_goals
            simp (disch := omega) [-List.reduceReplicate, hpv, Part.v, hlx, hg, h111, h116, h109, matV]
            refine hN.out f (by simp [kid, h111, h116, h109]) _ _ _ (by simp; exact ⟨rfl, rfl⟩) ?_
            first | exact .inl ⟨rfl, rfl⟩ | exact .inr ⟨rfl, rfl⟩
end Go.Abs.F
end
section
set_option maxHeartbeats 4000000
set_option maxRecDepth 100000
namespace Go.Abs.F
open Go.Proofs
attribute [-simp] getElem?_pos Option.not_isSome
def tabsGo (s : Str) : List Tab → List Part → List Tab
 | acc, [] => acc
 | acc, p :: ps => tabsGo s (acc ++ [stepT p s acc]) ps
theorem tabsGo_len (s : Str) : ∀ (ps : List Part) (acc : List Tab), (tabsGo s acc ps).length = acc.length + ps.length
 | [], acc => rfl
 | p :: ps, acc => by simp only [tabsGo, tabsGo_len s ps, List.length_append, List.length_cons, List.length_nil]; omega
def matchT (parts : List Part) (k : Nat) (s : Str) : Bool := (((tabsGo s [] (parts.take (k + 1)))[k]?).getD fun _ _ => false) 0 s.length
def Wf (parts : List Part) : Prop := parts.length ≤ 1000 ∧ ∀ (i : Nat) (p : Part), parts[i]? = some p → (∀ x ∈ p.l, x < i) ∧ (p.op = 115 → p.set.length = 95) ∧ p.l.length ≤ 1000
theorem f_ref09_Match (parts : List Part) (k : Nat) (s : Str) (hw : Wf parts) (hk : k < parts.length) (hs : s.length ≤ 999999) : Fn Tryz.prog n_ref09_Match [.seq 3 (parts.map Part.v), .int .i64 k, .str s] (.bool (matchT parts k s)) := by
 refine Fn.of_image mixed h_ref09_Match i_ref09_Match rfl fun ho => ?_
 unfold c_ref09_Match
 simp only [oks, ok, and_true] at ho
 clear ho
 have hpl := hw.1
 simp (disch := omega) [-List.reduceReplicate]
 obtain ⟨T, hT⟩ : ∃ T, T = tabsGo s [] (parts.take (k + 1)) := ⟨_, rfl⟩
 have hTl : T.length = k + 1 := by rw [hT, tabsGo_len]; simp; omega
 obtain ⟨f, hf⟩ := get_lt (l := T) (k := k) (by omega)
 have hm : matchT parts k s = f 0 s.length := by rw [matchT, ← hT, hf]; rfl
 rw [hm]
 have hlt : (parts.take (k + 1)).length = k + 1 := by simp; omega
 refine W_loop (fun (q : Nat × List Tab) => ⟨[(0, .seq 3 (parts.map Part.v)), (1, .int .i64 k), (2, .str s), (7, .ref 0 q.2.length), (8, .int .i64 q.1)], [some (.arr ty_IIbool 1 (q.2.map (matV (s.length + 1))))]⟩)
  (fun q => q.1 ≤ (parts.take (k + 1)).length ∧ q.2.length = q.1 ∧ tabsGo s q.2 ((parts.take (k + 1)).drop q.1) = T) (fun q => (parts.take (k + 1)).length - q.1) [.r 7 ty_IIbool 1] _ (0, []) rfl (by simp) (by simp [hT]) ?_
 rintro ⟨i, acc⟩ ⟨hi, ha, hi2⟩ N hN
 simp only at hi ha hi2
 rcases place (parts.take (k + 1)) i hi with ⟨he, hd⟩ | ⟨hlt2, p, hp, hd⟩ <;> rw [hd, tabsGo] at hi2
 · subst hi2
   clear hN
   have e : (acc.map (matV (s.length + 1)))[k]? = some (matV (s.length + 1) f) := by rw [List.getElem?_map, hf]; rfl
   simp (disch := omega) [-List.reduceReplicate, he, hlt, e, matV]
 · have hp2 : parts[i]? = some p := by rw [List.getElem?_take] at hp; simpa [show i < k + 1 by omega] using hp
   obtain ⟨w1, w2, w3⟩ := hw.2 i p hp2
   replace hi2 := hid hi2
   simp (disch := omega) [-List.reduceReplicate]
   refine wcall_new (f_ref09_step parts i p s acc hp2 hs (by rw [ha]; exact w1) w2 w3) fun _ => ?_
   simp (disch := omega) [-List.reduceReplicate, matV]
   exact hN.out _ <| Nx.mk (i + 1, acc ++ [stepT p s acc]) (by simp; rfl) ⟨by simp only; omega, by simp; omega, hi2.out⟩ (by simp only; omega)
end Go.Abs.F
end
section
set_option maxHeartbeats 4000000
set_option maxRecDepth 100000
namespace Go.Abs.F
open Go.Proofs
attribute [-simp] getElem?_pos Option.not_isSome
structure PS where
 n : List Part
 s : Str
 at' : Nat
 bad : Bool
def PS.v (p : PS) : V := .strct [.seq 3 (p.n.map Part.v), .str p.s, .int .i64 p.at', .bool p.bad]
def isP (p : PS) (c : Nat) : Bool := match p.s[p.at']? with
 | some b => decide (b.toNat = c)
 | none => false
theorem f_ref09_is (p : PS) (c : Nat) : Fn Tryz.prog n_ref09_is [p.v, .int .u8 c] (.bool (isP p c)) := by
 refine Fn.of_image mixed h_ref09_is i_ref09_is rfl fun ho => ?_
 unfold c_ref09_is
 simp only [oks, ok, and_true] at ho
 simp (disch := omega) [-List.reduceReplicate, PS.v]
 rcases Nat.lt_or_ge p.at' p.s.length with h | h
 · obtain ⟨b, hb⟩ := get_lt h
   simp (disch := omega) [-List.reduceReplicate, isP, hb, Int.ofNat_inj]
 · have hb : p.s[p.at']? = none := List.getElem?_eq_none (by omega)
   simp (disch := omega) [-List.reduceReplicate, isP, hb]
def amongS (c : Nat) (l : Str) : Bool := l.any fun b => decide (b.toNat = c)
theorem f_ref09_among (c : Nat) (l : Str) : Fn Tryz.prog n_ref09_among [.int .u8 c, .str l] (.bool (amongS c l)) := by
 refine Fn.of_image mixed h_ref09_among i_ref09_among rfl fun ho => ?_
 unfold c_ref09_among
 simp only [oks, ok, and_true] at ho
 simp (disch := omega) [-List.reduceReplicate]
 obtain ⟨r, hr⟩ : ∃ r, amongS c l = r := ⟨_, rfl⟩
 rw [hr]
 refine W_loop (fun k : Nat => ⟨[(0, .int .u8 c), (1, .str l), (5, .int .i64 k)], []⟩) (fun k => k ≤ l.length ∧ amongS c (l.drop k) = r) (fun k => l.length - k) [] _ 0 rfl (by simp) (by simp [hr]) ?_
 rintro k ⟨hk, hi⟩ N hN
 rcases place l k hk with ⟨he, hd⟩ | ⟨hlt, x, hx, hd⟩ <;> rw [hd] at hi
 · subst hi
   simp (disch := omega) [-List.reduceReplicate, he, amongS]
 · replace hi := hid hi
   simp (disch := omega) [-List.reduceReplicate, hx]
   refine BrKd.mk (fun h => ?_) (fun h => ?_)
   · have := hi.out
     simp (disch := omega) [-List.reduceReplicate, h]
     rw [← this]
     have h' : x.toNat = c := by omega
     simp [amongS, h']
   · simp (disch := omega) [-List.reduceReplicate, h]
     refine hN.out _ <| Nx.mk (k + 1) (by simp) ⟨by omega, ?_⟩ (by omega)
     have := hi.out
     have h' : ¬ x.toNat = c := by omega
     simpa [amongS, h'] using this
def addP (p : PS) (x : Part) : PS := { p with n := p.n ++ [x] }
theorem f_ref09_add (p : PS) (x : Part) (hn : p.n.length ≤ 1000) : Fn Tryz.prog n_ref09_add [p.v, x.v] (.tup [(addP p x).v, .int .i64 p.n.length]) := by
 refine Fn.of_image mixed h_ref09_add i_ref09_add rfl fun ho => ?_
 unfold c_ref09_add
 simp only [oks, ok, and_true] at ho
 clear ho
 simp (disch := omega) [-List.reduceReplicate, PS.v, Part.v]
 repeat' (first | refine wbothK.mk ?_ ?_ | (simp (disch := omega) [addP, Part.v, PS.v]; done) | (simp (disch := omega); refine wbothK.mk ?_ ?_))
def plainP (p : PS) (odd : Str) : PS × Nat :=
 let q : PS := if isP p 92 then { p with at' := p.at' + 1 } else p
 match q.s[q.at']? with
 | some c => if sgn c && (isP p 92 || !amongS c.toNat odd) then ({ q with at' := q.at' + 1 }, c.toNat) else ({ q with bad := true }, 32)
 | none => ({ q with bad := true }, 32)
theorem f_ref09_plain (p : PS) (odd : Str) : Fn Tryz.prog n_ref09_plain [p.v, .str odd] (.tup [(plainP p odd).1.v, .int .u8 (plainP p odd).2]) := by
 refine Fn.of_image mixed h_ref09_plain i_ref09_plain rfl fun ho => ?_
 unfold c_ref09_plain
 simp only [oks, ok, and_true] at ho
 have hs : p.s.length ≤ 4611686018427387904 := by have := ho.1; simp [PS.v] at this; exact this.2.1
 clear ho
 simp (disch := omega) [-List.reduceReplicate, PS.v]
 refine wcall_flat (by simpa [PS.v] using f_ref09_is p 92) rfl fun _ => ?_
 have isat : isP p 92 = true → p.at' < p.s.length := by
  intro h
  unfold isP at h
  split at h
  · rename_i b hb; exact (List.getElem?_eq_some_iff.1 hb).1
  · cases h
 cases hb : isP p 92
 · rcases Nat.lt_or_ge p.at' p.s.length with h | h
   · obtain ⟨c, hc⟩ := get_lt h
     simp (disch := omega) [-List.reduceReplicate, hc]
     refine wcall_flat (f_ref09_sign c) rfl fun _ => ?_
     cases hg : sgn c
     · simp (disch := omega) [-List.reduceReplicate, hc]
       simp [plainP, hb, hc, hg]
     · simp (disch := omega) [-List.reduceReplicate, hc]
       refine wcall_flat (f_ref09_among c.toNat odd) rfl fun _ => ?_
       cases ha : amongS c.toNat odd
       all_goals
        simp (disch := omega) [-List.reduceReplicate, hc]
        simp [plainP, hb, hc, hg, ha]
   · have hc : p.s[p.at']? = none := List.getElem?_eq_none (by omega)
     simp (disch := omega) [-List.reduceReplicate, hc]
     simp [plainP, hb, hc]
 · have hat := isat hb
   rcases Nat.lt_or_ge (p.at' + 1) p.s.length with h | h
   · obtain ⟨c, hc⟩ := get_lt h
     simp (disch := omega) [-List.reduceReplicate, hc]
     refine wcall_flat (f_ref09_sign c) rfl fun _ => ?_
     cases hg : sgn c
     · simp (disch := omega) [-List.reduceReplicate, hc]
       simp [plainP, hb, hc, hg]
     · simp (disch := omega) [-List.reduceReplicate, hc]
       simp [plainP, hb, hc, hg]
   · have hc : p.s[p.at' + 1]? = none := List.getElem?_eq_none (by omega)
     simp (disch := omega) [-List.reduceReplicate, hc]
     simp [plainP, hb, hc]
def signF (set : List Bool) (low high : Nat) : Nat → Bool := fun i => ((set[i]?).getD false) || (decide (low ≤ i + 32) && decide (i + 32 ≤ high))
theorem f_ref09_signs (set : List Bool) (low high : Nat) : FnN Tryz.prog n_ref09_signs [.seq 1 (set.map .bool), .int .u8 low, .int .u8 high] (.seq 1 (rowV 95 (signF set low high))) := by
 refine FnN.of_image mixed h_ref09_signs i_ref09_signs rfl fun ho => ?_
 unfold c_ref09_signs
 have hlo : low ≤ 255 ∧ high ≤ 255 := by have := ho.2; simp at this; omega
 clear ho
 simp (disch := omega) [-List.reduceReplicate]
 rw [upto_none (F := signF set low high)]
 refine W_loop (fun k : Nat => ⟨[(0, .seq 1 (set.map .bool)), (1, .int .u8 low), (2, .int .u8 high), (7, .ref 0 95), (8, .int .i64 k)], [some (.arr ty_bool 1 (rowV 95 (upto k (signF set low high))))]⟩) (fun k => k ≤ 95) (fun k => 95 - k) [] _ 0 rfl (by simp) (by simp) ?_
 rintro k hk N hN
 rcases Nat.lt_or_ge k 95 with hlt | hge
 · have fin : ∀ b : Bool, b = signF set low high k → ∀ τ : St, τ.nrm [0, 1, 2, 7, 8] = ⟨[(0, .seq 1 (set.map .bool)), (1, .int .u8 low), (2, .int .u8 high), (7, .ref 0 95), (8, .int .i64 ((k + 1 : Nat) : Int))], [some (.arr ty_bool 1 (rowV 95 (sub k b (upto k (signF set low high)))))]⟩ → N τ := fun b hb τ hτ => by
    rw [upto_step hb] at hτ
    exact hN.out _ <| Nx.mk (k + 1) hτ (by omega) (by omega)
   replace fin := hid fin
   have low1 : ((set[k]?).getD false) = false → low ≤ k + 32 → decide ((k : Int) + 32 ≤ high) = signF set low high k := fun h h1 => by
    simp only [signF, h, Bool.false_or, h1, decide_true, Bool.true_and]
    exact decide_eq_decide.2 (by omega)
   have low0 : ((set[k]?).getD false) = false → ¬ low ≤ k + 32 → false = signF set low high k := fun h h1 => by
    simp [signF, h, h1]
   rcases Nat.lt_or_ge k set.length with hks | hks
   · obtain ⟨b, hb⟩ := get_lt hks
     cases b
     · by_cases h1 : low ≤ k + 32
       · simp (disch := omega) [-List.reduceReplicate, hb]
         exact fin.out _ (low1 (by rw [hb]; rfl) h1) _ (by simp)
       · simp (disch := omega) [-List.reduceReplicate, hb]
         exact fin.out _ (low0 (by rw [hb]; rfl) h1) _ (by simp)
     · simp (disch := omega) [-List.reduceReplicate, hb]
       exact fin.out true (by simp [signF, hb]) _ (by simp)
   · have hb : set[k]? = none := List.getElem?_eq_none hks
     by_cases h1 : low ≤ k + 32
     · simp (disch := omega) [-List.reduceReplicate, hb]
       exact fin.out _ (low1 (by rw [hb]; rfl) h1) _ (by simp)
     · simp (disch := omega) [-List.reduceReplicate, hb]
       exact fin.out _ (low0 (by rw [hb]; rfl) h1) _ (by simp)
 · have : k = 95 := by omega
   subst this
   simp (disch := omega) [-List.reduceReplicate, upto_all]
end Go.Abs.F
end
section
set_option maxHeartbeats 4000000
set_option maxRecDepth 100000
namespace Go.Abs.F
open Go.Proofs
attribute [-simp] getElem?_pos Option.not_isSome
def stepP (p : PS) : PS := { p with at' := p.at' + 1 }
def badP (p : PS) : PS := { p with bad := true }
def odd4 : Str := [92, 93, 45, 94]
def clsLow (p : PS) : PS × Nat := plainP p odd4
def clsHigh (p : PS) : PS × Nat := if isP (clsLow p).1 45 then plainP (stepP (clsLow p).1) odd4 else clsLow p
def clsP (p : PS) : PS := if (clsHigh p).2 < (clsLow p).2 then badP (clsHigh p).1 else (clsHigh p).1
def clsSet (p : PS) (set : List Bool) : List Bool := if (clsP p).bad then set else tab 95 (signF set (clsLow p).2 (clsHigh p).2)
def lim (p : PS) : Bool := decide (p.at' ≤ 1000) && (decide (p.n.length ≤ 900) && decide (p.s.length ≤ 1000))
def clsGo : Nat → PS → List Bool → Nat → Option (PS × List Bool)
 | 0, _, _, _ => none
 | fuel + 1, p, set, n => if lim p then (if !p.bad && (decide (n = 0) || !isP p 93) then clsGo fuel (clsP p) (clsSet p set) (n + 1) else some (p, set)) else none
def classF (fuel : Nat) (p : PS) : Option (PS × Nat) :=
 match clsGo fuel (if isP p 94 then stepP p else p) [] 0 with
 | some (q, set) => some (addP (stepP (if isP q 93 then q else badP q)) ⟨115, tab 95 (fun i => (((set[i]?).getD false) != isP p 94)), []⟩, q.n.length)
 | none => none
theorem plainP_n (p : PS) (o : Str) : (plainP p o).1.n = p.n ∧ (plainP p o).1.s = p.s ∧ (plainP p o).1.at' ≤ p.at' + 2 := by
 unfold plainP
 cases isP p 92 <;> simp <;> (split <;> (try split)) <;> simp
theorem clsGo_lim : ∀ {fuel : Nat} {p : PS} {set : List Bool} {n : Nat} {r : PS × List Bool}, clsGo fuel p set n = some r → lim p = true ∧ lim r.1 = true
 | 0, _, _, _, _, h => by simp [clsGo] at h
 | fuel + 1, p, set, n, r, h => by
   simp only [clsGo] at h
   split at h
   · rename_i hl
     split at h
     · exact ⟨hl, (clsGo_lim h).2⟩
     · cases h; exact ⟨hl, hl⟩
   · cases h
theorem lim_spec {p : PS} (h : lim p = true) : p.at' ≤ 1000 ∧ p.n.length ≤ 900 ∧ p.s.length ≤ 1000 := by
 simpa [lim] using h
def setS (set : List Bool) (v : V) : Prop := (v = .nil 1 ∧ set = []) ∨ v = .seq 1 (set.map .bool)
theorem f_ref09_class (fuel : Nat) (p : PS) (q : PS) (k : Nat) (hr : classF fuel p = some (q, k)) (hl : lim p = true) (hfu : fuel ≤ 1000000) : Fn Tryz.prog n_ref09_class [p.v] (.tup [q.v, .int .i64 k]) := by
 refine Fn.of_image mixed h_ref09_class i_ref09_class rfl fun ho => ?_
 unfold c_ref09_class
 simp only [oks, ok, and_true] at ho
 clear ho
 have hl0 := lim_spec hl
 unfold classF at hr
 obtain ⟨R, hR⟩ : ∃ R, R = (V.tup [q.v, .int .i64 k]) := ⟨_, rfl⟩
 rw [← hR]
 simp (disch := omega) [-List.reduceReplicate, PS.v]
 refine wcall_flat (by simpa [PS.v] using f_ref09_is p 94) rfl fun _ => ?_
 generalize hp1 : (if isP p 94 = true then stepP p else p) = p1 at hr
 split at hr
 · rename_i q0 set0 hgo
   simp only [Option.some.injEq, Prod.mk.injEq] at hr
   obtain ⟨hq, hk⟩ := hr
   generalize hb : isP p 94 = neg at hp1 hq
   have hl1 := (clsGo_lim hgo).2
   cases neg
   all_goals
    simp only [Bool.false_eq_true, if_false, if_true] at hp1
    simp (disch := omega) [-List.reduceReplicate]
    refine W_loop (fun (x : Nat × PS × List Bool × V × Nat) => ⟨[(1, .ptr 0 0), (2, .ptr 1 0), (4, .bool (isP p 94)), (5, x.2.2.2.1), (6, .int .i64 x.2.2.2.2)],
     [some (.box [.seq 3 (x.2.1.n.map Part.v), .str x.2.1.s, .int .i64 x.2.1.at', .bool x.2.1.bad]), some (.box [.nil 3, .str [], .int .i64 0, .bool false])]⟩)
     (fun x => clsGo x.1 x.2.1 x.2.2.1 x.2.2.2.2 = some (q0, set0) ∧ setS x.2.2.1 x.2.2.2.1 ∧ x.1 + x.2.2.2.2 = fuel) (fun x => x.1) [] _ (fuel, p1, [], .nil 1, 0) rfl (by simp [← hp1, hb, stepP]) ⟨hgo, .inl ⟨rfl, rfl⟩, rfl⟩ ?_
    rintro ⟨f, r, set, sv, n⟩ ⟨hi, hsv, hfn⟩ N hN
    simp only at hi hsv hfn
    cases f with
    | zero => simp [clsGo] at hi
    | succ f =>
    have hl2 := lim_spec (clsGo_lim hi).1
    have hl3 := (clsGo_lim hi).1
    simp only [clsGo, hl3, if_true] at hi
    have hex : (r.bad = true ∨ (r.bad = false ∧ n ≠ 0 ∧ isP r 93 = true)) ∨ ((r.bad = false ∧ n = 0) ∨ (r.bad = false ∧ n ≠ 0 ∧ isP r 93 = false)) := by
     cases r.bad <;> cases isP r 93 <;> simp
     all_goals omega
    rcases hex with hex | hex
    · have hc : (!r.bad && (decide (n = 0) || !isP r 93)) = false := by
       rcases hex with h | ⟨h, h', h''⟩ <;> simp [h]
       simp [h', h'']
      simp only [hc, Bool.false_eq_true, if_false, Option.some.injEq, Prod.mk.injEq] at hi
      obtain ⟨rfl, rfl⟩ := hi
      clear hN hc
      have hn0 : r.bad = true ∨ (n ≠ 0 ∧ isP r 93 = true) := by
       rcases hex with h | ⟨_, h, h'⟩
       · exact .inl h
       · exact .inr ⟨h, h'⟩
      clear hex
      generalize hbd : r.bad = bd at hn0
      obtain ⟨X, hX⟩ : ∃ X, X = (if isP r 93 = true then r else badP r) := ⟨_, rfl⟩
      rw [← hX] at hq
      have hXn : X.n = r.n ∧ X.s = r.s ∧ X.at' = r.at' := by rw [hX]; split <;> simp [badP]
      have hXb : X.bad = (bd || !isP r 93) := by rw [hX, ← hbd]; cases isP r 93 <;> simp [badP]
      have h3 : (bd = true ∧ isP r 93 = false) ∨ (bd = true ∧ isP r 93 = true) ∨ (bd = false ∧ n ≠ 0 ∧ isP r 93 = true) := by
       rcases hn0 with h | ⟨h, h'⟩
       · cases hh : isP r 93
         · exact .inl ⟨h, rfl⟩
         · exact .inr (.inl ⟨h, rfl⟩)
       · cases bd
         · exact .inr (.inr ⟨rfl, h, h'⟩)
         · exact .inr (.inl ⟨rfl, h'⟩)
      clear hn0
      have hmid : ∀ Y : V, True := fun _ => trivial
      clear hmid
      obtain ⟨st0, hst0⟩ : ∃ s0, s0 = set := ⟨_, rfl⟩
      obtain ⟨sv0, hsv0⟩ : ∃ v, v = sv := ⟨_, rfl⟩
      rw [← hst0] at hq
      rcases hsv with ⟨rfl, rfl⟩ | rfl <;> rcases h3 with ⟨rfl, h93⟩ | ⟨rfl, h93⟩ | ⟨rfl, hn0, h93⟩
      all_goals
       simp (disch := omega) [-List.reduceReplicate, *, hbd]
       refine wcall_flat (by simpa [PS.v, hbd] using f_ref09_is r 93) rfl fun _ => ?_
       simp (disch := omega) [-List.reduceReplicate, hbd, h93]
       try (refine wcall_flat (by simpa [PS.v, hbd] using f_ref09_is r 93) rfl fun _ => ?_; simp (disch := omega) [-List.reduceReplicate, hbd, h93])
       rw [upto_none (F := fun i => (((st0[i]?).getD false) != isP p 94))]
       refine W_loop (fun k : Nat => ⟨[(1, .ptr 0 0), (2, .ptr 1 0), (4, .bool (isP p 94)), (5, sv0), (11, .ref 2 95), (12, .int .i64 k)],
        [some (.box [.seq 3 (X.n.map Part.v), .str X.s, .int .i64 ((X.at' + 1 : Nat) : Int), .bool X.bad]), some (.box [.nil 3, .str [], .int .i64 0, .bool false]), some (.arr ty_bool 1 (rowV 95 (upto k fun i => (((st0[i]?).getD false) != isP p 94))))]⟩)
        (fun k => k ≤ 95) (fun k => 95 - k) [] _ 0 rfl (by simp [hXn, hXb, h93, hsv0, hb, ← hp1]) (by simp) ?_
       rintro k1 hk1 M hM
       try rw [← hst0] at hsv0
       rcases Nat.lt_or_ge k1 95 with hlt | hge
       · have fin : ∀ b : Bool, b = (((st0[k1]?).getD false) != isP p 94) → ∀ τ : St, τ.nrm [1, 2, 4, 5, 11, 12] = ⟨[(1, .ptr 0 0), (2, .ptr 1 0), (4, .bool (isP p 94)), (5, sv0), (11, .ref 2 95), (12, .int .i64 ((k1 + 1 : Nat) : Int))],
          [some (.box [.seq 3 (X.n.map Part.v), .str X.s, .int .i64 ((X.at' + 1 : Nat) : Int), .bool X.bad]), some (.box [.nil 3, .str [], .int .i64 0, .bool false]), some (.arr ty_bool 1 (rowV 95 (sub k1 b (upto k1 fun i => (((st0[i]?).getD false) != isP p 94)))))]⟩ → M τ := fun b hb τ hτ => by
          rw [upto_step hb] at hτ
          exact hM.out _ <| Nx.mk (k1 + 1) hτ (by omega) (by omega)
         replace fin := hid fin
         cases hg : st0[k1]? with
         | none =>
           have hlen : st0.length ≤ k1 := by rw [List.getElem?_eq_none_iff] at hg; exact hg
           simp (disch := omega) [-List.reduceReplicate, hsv0, hg]
           exact fin.out (isP p 94) (by simp [hg]) _ (by simp [hsv0])
         | some b =>
           have hlen := (List.getElem?_eq_some_iff.1 hg).1
           first
            | (exfalso; rw [hst0] at hg; simp at hg; done)
            | (simp (disch := omega) [-List.reduceReplicate, hsv0, hg]
               have e : (!b == isP p 94) = (b != isP p 94) := by cases b <;> cases isP p 94 <;> rfl
               exact fin.out (b != isP p 94) (by simp [hg]) _ (by simp [hsv0, e]))
       · have : k1 = 95 := by omega
         subst this
         simp (disch := omega) [-List.reduceReplicate, hsv0, upto_all]
         refine wcall_kill (r := .tup [(addP (stepP X) ⟨115, tab 95 (fun i => (((st0[i]?).getD false) != isP p 94)), []⟩).v, .int .i64 (stepP X).n.length]) ?_ fun _ => ?_
         · have := f_ref09_add (stepP X) ⟨115, tab 95 (fun i => (((st0[i]?).getD false) != isP p 94)), []⟩ (by simp [stepP, hXn]; omega)
           simpa [PS.v, stepP, Part.v, rowV] using this
         · simp (disch := omega) [-List.reduceReplicate, PS.v, hR]
           simp [PS.v, ← hq, ← hk, stepP, hXn, hb, hst0]
    · have hc : (!r.bad && (decide (n = 0) || !isP r 93)) = true := by
       rcases hex with ⟨h, h'⟩ | ⟨h, h', h''⟩ <;> simp [h, h']
       simp [h'']
      have hbd : r.bad = false := by rcases hex with h | h <;> exact h.1
      simp only [hc, if_true] at hi
      clear hc
      obtain ⟨Y, hY⟩ : ∃ Y, Y = clsP r := ⟨_, rfl⟩
      obtain ⟨st1, hst1⟩ : ∃ s, s = clsSet r set := ⟨_, rfl⟩
      rw [← hY, ← hst1] at hi
      replace hi := hid hi
      have fin : ∀ (v : V), setS st1 v → ∀ τ : St, τ.nrm [1, 2, 4, 5, 6] = ⟨[(1, .ptr 0 0), (2, .ptr 1 0), (4, .bool (isP p 94)), (5, v), (6, .int .i64 ((n + 1 : Nat) : Int))],
       [some (.box [.seq 3 (Y.n.map Part.v), .str Y.s, .int .i64 Y.at', .bool Y.bad]), some (.box [.nil 3, .str [], .int .i64 0, .bool false])]⟩ → N τ := fun v hv τ hτ =>
        hN.out _ <| Nx.mk (f, Y, st1, v, n + 1) hτ ⟨hi.out, hv, by simp only; omega⟩ (by simp only; omega)
      replace fin := hid fin
      obtain ⟨⟨q1, lo⟩, hql⟩ : ∃ x, plainP r odd4 = x := ⟨_, rfl⟩
      have hq1 := plainP_n r odd4
      rw [hql] at hq1
      simp only at hq1
      have hlo : (clsLow r) = (q1, lo) := hql
      obtain ⟨st0, hst0⟩ : ∃ s0, s0 = set := ⟨_, rfl⟩
      obtain ⟨sv0, hsv0⟩ : ∃ v, v = sv := ⟨_, rfl⟩
      have hss : setS st0 sv0 := by rw [hst0, hsv0]; exact hsv
      rcases hex with ⟨_, rfl⟩ | ⟨_, hn0, h93⟩ <;> rcases hsv with ⟨rfl, rfl⟩ | rfl
      all_goals
       simp (disch := omega) [-List.reduceReplicate, hbd]
       try (refine wcall_flat (r := .bool (isP r 93)) (by simpa [PS.v, hbd] using f_ref09_is r 93) rfl fun _ => ?_; simp (disch := omega) [-List.reduceReplicate, hbd, h93, hn0])
       refine wcall_pure (r := .tup [q1.v, .int .u8 lo]) (by have := f_ref09_plain r odd4; rw [hql] at this; simpa [PS.v, hbd, odd4] using this) rfl fun _ => ?_
       simp (disch := omega) [-List.reduceReplicate, PS.v]
       refine wcall_flat (r := .bool (isP q1 45)) (by simpa [PS.v] using f_ref09_is q1 45) rfl fun _ => ?_
       cases h45 : isP q1 45
       · have hhi : clsHigh r = (q1, lo) := by simp [clsHigh, hlo, h45]
         have hYq : Y = q1 := by simp [hY, clsP, hhi, hlo]
         subst hYq
         cases hb1 : Y.bad
         · simp (disch := omega) [-List.reduceReplicate, hb1]
           refine wcall_new (r := .seq 1 (rowV 95 (signF st0 lo lo))) (by simpa [hst0] using f_ref09_signs st0 lo lo) fun _ => ?_
           simp (disch := omega) [-List.reduceReplicate]
           exact fin.out (.seq 1 (rowV 95 (signF st0 lo lo))) (.inr (by simp [hst1, clsSet, ← hY, hb1, hst0, hhi, hlo, rowV])) _ (by simp [hb1])
         · simp (disch := omega) [-List.reduceReplicate, hb1]
           have e : st1 = st0 := by simp [hst1, clsSet, ← hY, hb1, hst0]
           exact fin.out sv0 (by rw [e]; exact hss) _ (by simp [hb1, hsv0])
       · simp (disch := omega) [-List.reduceReplicate]
         obtain ⟨⟨q2, hi2⟩, hqh⟩ : ∃ x, plainP (stepP q1) odd4 = x := ⟨_, rfl⟩
         have hq2 := plainP_n (stepP q1) odd4
         rw [hqh] at hq2
         simp only [stepP] at hq2
         have hhi : clsHigh r = (q2, hi2) := by simp [clsHigh, hlo, h45, hqh]
         refine wcall_pure (r := .tup [q2.v, .int .u8 hi2]) (by have := f_ref09_plain (stepP q1) odd4; rw [hqh] at this; simpa [PS.v, stepP, odd4] using this) rfl fun _ => ?_
         simp (disch := omega) [-List.reduceReplicate, PS.v]
         refine BrKd.mk (fun h => ?_) (fun h => ?_)
         · have hYq : Y = badP q2 := by simp [hY, clsP, hhi, hlo]; omega
           simp (disch := omega) [-List.reduceReplicate, h]
           have e : st1 = st0 := by simp [hst1, clsSet, ← hY, hYq, badP, hst0]
           exact fin.out sv0 (by rw [e]; exact hss) _ (by simp [hYq, badP, hsv0])
         · have hYq : Y = q2 := by simp [hY, clsP, hhi, hlo]; omega
           subst hYq
           cases hb1 : Y.bad
           · simp (disch := omega) [-List.reduceReplicate, h, hb1]
             refine wcall_new (r := .seq 1 (rowV 95 (signF st0 lo hi2))) (by simpa [hst0] using f_ref09_signs st0 lo hi2) fun _ => ?_
             simp (disch := omega) [-List.reduceReplicate]
             exact fin.out (.seq 1 (rowV 95 (signF st0 lo hi2))) (.inr (by simp [hst1, clsSet, ← hY, hb1, hst0, hhi, hlo, rowV])) _ (by simp [hb1])
           · simp (disch := omega) [-List.reduceReplicate, h, hb1]
             have e : st1 = st0 := by simp [hst1, clsSet, ← hY, hb1, hst0]
             exact fin.out sv0 (by rw [e]; exact hss) _ (by simp [hb1, hsv0])
 · cases hr
end Go.Abs.F
end
section
set_option maxHeartbeats 4000000
set_option maxRecDepth 100000
namespace Go.Abs.F
open Go.Proofs
attribute [-simp] getElem?_pos Option.not_isSome
def oddA : Str := [92, 40, 41, 91, 93, 124, 42, 43, 63, 46]
def goes (p : PS) : Bool := !p.bad && (match p.s[p.at']? with
 | some b => !amongS b.toNat [124, 41]
 | none => false)
def pieceGo : Nat → PS → Nat → Option (PS × Nat)
 | 0, _, _ => none
 | f + 1, q, k => if lim q then (if q.bad || (!isP q 42 && (!isP q 43 && !isP q 63)) then some (q, k)
     else if isP q 63 then pieceGo f (addP (addP (stepP q) ⟨116, [], []⟩) ⟨111, [], [k, q.n.length]⟩) (q.n.length + 1)
     else if isP q 43 then pieceGo f (addP (addP (stepP q) ⟨109, [], [k]⟩) ⟨116, [], [k, q.n.length]⟩) (q.n.length + 1)
     else pieceGo f (addP (stepP q) ⟨109, [], [k]⟩) q.n.length) else none
mutual
def atomF : Nat → PS → Option (PS × Nat)
 | 0, _ => none
 | f + 1, p => if lim p then (if isP p 40 then (match branchesF f (stepP p) with
       | some (q, k) => if lim q then some (stepP (if isP q 41 then q else badP q), k) else none
       | none => none)
     else if isP p 46 then some (addP (stepP p) ⟨115, tab 95 (signF [] 32 126), []⟩, p.n.length)
     else if isP p 91 then classF f (stepP p)
     else some (addP (plainP p oddA).1 ⟨115, tab 95 (signF [] (plainP p oddA).2 (plainP p oddA).2), []⟩, p.n.length)) else none
def pieceF : Nat → PS → Option (PS × Nat)
 | 0, _ => none
 | f + 1, p => match atomF f p with
   | some (q, k) => pieceGo f q k
   | none => none
def ownGo : Nat → PS → List Nat → Option (PS × List Nat)
 | 0, _, _ => none
 | f + 1, p, own => if lim p && decide (own.length ≤ 900) then (if goes p then (match pieceF f p with
     | some (q, k) => ownGo f q (own ++ [k])
     | none => none) else some (p, own)) else none
def brGo : Nat → PS → List Nat → Option (PS × Nat)
 | 0, _, _ => none
 | f + 1, p, l => if decide (l.length ≤ 900) then (match ownGo f p [] with
   | some (q, own) => if q.bad || !isP q 124 then some (addP (addP q ⟨116, [], own⟩) ⟨111, [], l ++ [q.n.length]⟩, q.n.length + 1)
      else brGo f (stepP (addP q ⟨116, [], own⟩)) (l ++ [q.n.length])
   | none => none) else none
def branchesF : Nat → PS → Option (PS × Nat)
 | 0, _ => none
 | f + 1, p => brGo f p []
end
theorem lim_mono {p q : PS} (h : lim q = true) (hn : p.n.length ≤ q.n.length) (hs : p.s = q.s) (ha : p.at' ≤ q.at') : lim p = true := by
 have := lim_spec h
 simp [lim, hs]; omega
theorem classF_lim {f : Nat} {p : PS} {r : PS × Nat} (h : classF f p = some r) : lim p = true := by
 unfold classF at h
 split at h
 · rename_i q set hg
   have := (clsGo_lim hg).1
   split at this
   · exact lim_mono this (by simp [stepP]) (by simp [stepP]) (by simp [stepP])
   · exact this
 · cases h
def PC (F : Nat → PS → Option (PS × Nat)) (n : FuncId) (f : Nat) : Prop := ∀ (p q : PS) (k : Nat), F f p = some (q, k) → Fn Tryz.prog n [p.v] (.tup [q.v, .int .i64 k])
theorem f_ref09_atom (f : Nat) (hf : f ≤ 1000000) (IH : PC branchesF n_ref09_branches f) : PC atomF n_ref09_atom (f + 1) := by
 intro p q k hr
 simp only [atomF] at hr
 split at hr
 · rename_i hl
   have hl0 := lim_spec hl
   refine Fn.of_image mixed h_ref09_atom i_ref09_atom rfl fun ho => ?_
   unfold c_ref09_atom
   simp only [oks, ok, and_true] at ho
   clear ho
   simp (disch := omega) [-List.reduceReplicate, PS.v]
   refine wcall_flat (by simpa [PS.v] using f_ref09_is p 40) rfl fun _ => ?_
   cases h40 : isP p 40
   · simp (disch := omega) [-List.reduceReplicate, h40]
     refine wcall_flat (by simpa [PS.v] using f_ref09_is p 46) rfl fun _ => ?_
     simp only [h40, Bool.false_eq_true, if_false] at hr
     cases h46 : isP p 46
     · simp (disch := omega) [-List.reduceReplicate, h46]
       refine wcall_flat (by simpa [PS.v] using f_ref09_is p 91) rfl fun _ => ?_
       simp only [h46, Bool.false_eq_true, if_false] at hr
       cases h91 : isP p 91
       · simp only [h91, Bool.false_eq_true, if_false, Option.some.injEq, Prod.mk.injEq] at hr
         obtain ⟨⟨q1, lo⟩, hql⟩ : ∃ x, plainP p oddA = x := ⟨_, rfl⟩
         have hq1 := plainP_n p oddA
         rw [hql] at hq1 hr
         simp only at hq1 hr
         simp (disch := omega) [-List.reduceReplicate, h91]
         refine wcall_pure (r := .tup [q1.v, .int .u8 lo]) (by have := f_ref09_plain p oddA; rw [hql] at this; simpa [PS.v, oddA] using this) rfl fun _ => ?_
         simp (disch := omega) [-List.reduceReplicate, PS.v]
         refine wcallD_new (by simpa using f_ref09_signs [] lo lo) ?_
         simp (disch := omega) [-List.reduceReplicate]
         refine wcallD_pure (r := .tup [(addP q1 ⟨115, tab 95 (signF [] lo lo), []⟩).v, .int .i64 q1.n.length]) ?_ (by simp) ?_
         · have := f_ref09_add q1 ⟨115, tab 95 (signF [] lo lo), []⟩ (by rw [hq1.1]; omega)
           simpa [PS.v, Part.v, rowV] using this
         · simp (disch := omega) [-List.reduceReplicate, PS.v]
           simp [← hr.1, ← hr.2, PS.v, hq1]
       · simp only [h91, if_true] at hr
         have hl1 := classF_lim hr
         have hl2 := lim_spec hl1
         simp (disch := omega) [-List.reduceReplicate, h91]
         refine wcall_pure (r := .tup [q.v, .int .i64 k]) (by have := f_ref09_class f (stepP p) q k hr hl1 hf; simpa [PS.v, stepP] using this) rfl fun _ => ?_
         simp (disch := omega) [-List.reduceReplicate, PS.v]
     · simp only [h46, if_true, Option.some.injEq, Prod.mk.injEq] at hr
       simp (disch := omega) [-List.reduceReplicate, h46]
       refine wcallD_new (by simpa using f_ref09_signs [] 32 126) ?_
       simp (disch := omega) [-List.reduceReplicate]
       refine wcallD_pure (r := .tup [(addP (stepP p) ⟨115, tab 95 (signF [] 32 126), []⟩).v, .int .i64 p.n.length]) ?_ (by simp) ?_
       · have := f_ref09_add (stepP p) ⟨115, tab 95 (signF [] 32 126), []⟩ (by simp [stepP]; omega)
         simpa [PS.v, Part.v, rowV, stepP] using this
       · simp (disch := omega) [-List.reduceReplicate, PS.v]
         simp [← hr.1, ← hr.2, PS.v]
   · simp only [h40, if_true] at hr
     split at hr
     · rename_i q0 k0 hb
       split at hr
       · rename_i hl1
         replace hl1 := lim_spec hl1
         simp only [Option.some.injEq, Prod.mk.injEq] at hr
         simp (disch := omega) [-List.reduceReplicate, h40]
         refine wcall_pure (r := .tup [q0.v, .int .i64 k0]) (by have := IH (stepP p) q0 k0 hb; simpa [PS.v, stepP] using this) rfl fun _ => ?_
         simp (disch := omega) [-List.reduceReplicate, PS.v]
         refine wcall_flat (by simpa [PS.v] using f_ref09_is q0 41) rfl fun _ => ?_
         cases h41 : isP q0 41
         all_goals
          simp (disch := omega) [-List.reduceReplicate, h41]
          simp [← hr.1, ← hr.2, PS.v, h41, stepP, badP]
       · cases hr
     · cases hr
 · cases hr
theorem f_ref09_piece (f : Nat) (hf : f ≤ 1000000) (IH : PC atomF n_ref09_atom f) : PC pieceF n_ref09_piece (f + 1) := by
 intro p q k hr
 simp only [pieceF] at hr
 split at hr
 · rename_i q0 k0 ha
   refine Fn.of_image mixed h_ref09_piece i_ref09_piece rfl fun ho => ?_
   unfold c_ref09_piece
   simp only [oks, ok, and_true] at ho
   clear ho
   obtain ⟨R, hR⟩ : ∃ R, R = (V.tup [q.v, .int .i64 k]) := ⟨_, rfl⟩
   rw [← hR]
   simp (disch := omega) [-List.reduceReplicate, PS.v]
   refine wcall_pure (r := .tup [q0.v, .int .i64 k0]) (by have := IH p q0 k0 ha; simpa [PS.v] using this) rfl fun _ => ?_
   simp (disch := omega) [-List.reduceReplicate, PS.v]
   refine W_loop (fun (x : Nat × PS × Nat) => ⟨[(1, .ptr 0 0), (2, .ptr 1 0), (4, .int .i64 x.2.2)],
    [some (.box [.seq 3 (x.2.1.n.map Part.v), .str x.2.1.s, .int .i64 x.2.1.at', .bool x.2.1.bad]), some (.box [.nil 3, .str [], .int .i64 0, .bool false])]⟩)
    (fun x => pieceGo x.1 x.2.1 x.2.2 = some (q, k)) (fun x => x.1) [] _ (f, q0, k0) rfl (by simp) hr ?_
   rintro ⟨g, r, j⟩ hi N hN
   simp only at hi
   cases g with
   | zero => simp [pieceGo] at hi
   | succ g =>
   simp only [pieceGo] at hi
   split at hi
   · rename_i hl
     have hl1 := lim_spec hl
     cases hbd : r.bad
     · simp (disch := omega) [-List.reduceReplicate, hbd]
       refine wcall_flat (r := .bool (isP r 42)) (by simpa [PS.v, hbd] using f_ref09_is r 42) rfl fun _ => ?_
       simp (disch := omega) [-List.reduceReplicate, hbd]
       refine wcall_flat (r := .bool (isP r 43)) (by simpa [PS.v, hbd] using f_ref09_is r 43) rfl fun _ => ?_
       simp (disch := omega) [-List.reduceReplicate, hbd]
       refine wcall_flat (r := .bool (isP r 63)) (by simpa [PS.v, hbd] using f_ref09_is r 63) rfl fun _ => ?_
       simp only [hbd, Bool.false_or] at hi
       cases h42 : isP r 42 <;> cases h43 : isP r 43 <;> cases h63 : isP r 63
       all_goals
        simp only [h42, h43, h63, Bool.not_true, Bool.not_false, Bool.and_true, Bool.and_false, Bool.false_and, Bool.true_and, Bool.and_self, if_true, Bool.false_eq_true, if_false] at hi
        simp (disch := omega) [-List.reduceReplicate, hbd]
       all_goals
        first
         | (simp only [Option.some.injEq, Prod.mk.injEq] at hi
            simp [hR, ← hi.1, ← hi.2, PS.v, hbd]
            done)
         | (refine wcall_pure (r := .tup [(addP (stepP r) ⟨116, [], []⟩).v, .int .i64 r.n.length]) (by have := f_ref09_add (stepP r) ⟨116, [], []⟩ (by simp [stepP]; omega); simpa [PS.v, Part.v, stepP, hbd] using this) rfl fun _ => ?_
            simp (disch := omega) [-List.reduceReplicate, PS.v, addP, stepP, hbd]
            refine wcall_pure (r := .tup [(addP (addP (stepP r) ⟨116, [], []⟩) ⟨111, [], [j, r.n.length]⟩).v, .int .i64 ((r.n.length + 1 : Nat) : Int)]) (by have := f_ref09_add (addP (stepP r) ⟨116, [], []⟩) ⟨111, [], [j, r.n.length]⟩ (by simp [stepP, addP]; omega); simpa [PS.v, Part.v, stepP, hbd, addP] using this) (by simp) fun _ => ?_
            simp (disch := omega) [-List.reduceReplicate, PS.v, addP, stepP, hbd]
            exact hN.out _ <| Nx.mk (g, _, r.n.length + 1) (by simp [addP, stepP, hbd]) hi (by simp only; omega))
         | (refine wcall_pure (r := .tup [(addP (stepP r) ⟨109, [], [j]⟩).v, .int .i64 r.n.length]) (by have := f_ref09_add (stepP r) ⟨109, [], [j]⟩ (by simp [stepP]; omega); simpa [PS.v, Part.v, stepP, hbd] using this) (by simp) fun _ => ?_
            simp (disch := omega) [-List.reduceReplicate, PS.v, addP, stepP, hbd]
            refine wcall_pure (r := .tup [(addP (addP (stepP r) ⟨109, [], [j]⟩) ⟨116, [], [j, r.n.length]⟩).v, .int .i64 ((r.n.length + 1 : Nat) : Int)]) (by have := f_ref09_add (addP (stepP r) ⟨109, [], [j]⟩) ⟨116, [], [j, r.n.length]⟩ (by simp [stepP, addP]; omega); simpa [PS.v, Part.v, stepP, hbd, addP] using this) (by simp) fun _ => ?_
            simp (disch := omega) [-List.reduceReplicate, PS.v, addP, stepP, hbd]
            exact hN.out _ <| Nx.mk (g, _, r.n.length + 1) (by simp [addP, stepP, hbd]) hi (by simp only; omega))
         | (refine wcall_pure (r := .tup [(addP (stepP r) ⟨109, [], [j]⟩).v, .int .i64 r.n.length]) (by have := f_ref09_add (stepP r) ⟨109, [], [j]⟩ (by simp [stepP]; omega); simpa [PS.v, Part.v, stepP, hbd] using this) (by simp) fun _ => ?_
            simp (disch := omega) [-List.reduceReplicate, PS.v, addP, stepP, hbd]
            exact hN.out _ <| Nx.mk (g, _, r.n.length) (by simp [addP, stepP, hbd]) hi (by simp only; omega))
     · simp only [hbd, Bool.true_or, if_true, Option.some.injEq, Prod.mk.injEq] at hi
       simp (disch := omega) [-List.reduceReplicate, hbd]
       simp [hR, ← hi.1, ← hi.2, PS.v, hbd]
   · cases hi
 · cases hr
theorem f_ref09_branches (f : Nat) (hf : f ≤ 1000000) (IH : ∀ g, g < f → PC pieceF n_ref09_piece g) : PC branchesF n_ref09_branches (f + 1) := by
 intro p q k hr
 simp only [branchesF] at hr
 refine Fn.of_image mixed h_ref09_branches i_ref09_branches rfl fun ho => ?_
 unfold c_ref09_branches
 simp only [oks, ok, and_true] at ho
 clear ho
 obtain ⟨R, hR⟩ : ∃ R, R = (V.tup [q.v, .int .i64 k]) := ⟨_, rfl⟩
 rw [← hR]
 simp (disch := omega) [-List.reduceReplicate, PS.v]
 refine W_loop (fun (x : Nat × PS × List Nat) => ⟨[(1, .ptr 0 0), (2, .ptr 1 0), (4, .ref 2 x.2.2.length)],
  [some (.box [.seq 3 (x.2.1.n.map Part.v), .str x.2.1.s, .int .i64 x.2.1.at', .bool x.2.1.bad]), some (.box [.nil 3, .str [], .int .i64 0, .bool false]), some (.arr ty_int 1 (x.2.2.map fun (j : Nat) => V.int .i64 (j : Int)))]⟩)
  (fun x => brGo x.1 x.2.1 x.2.2 = some (q, k) ∧ x.1 ≤ f) (fun x => x.1) [.r 4 ty_int 1] _ (f, p, []) rfl (by simp) ⟨hr, Nat.le_refl _⟩ ?_
 rintro ⟨g, r, l⟩ ⟨hi, hg⟩ N hN
 simp only at hi hg
 cases g with
 | zero => simp [brGo] at hi
 | succ g =>
 simp only [brGo] at hi
 split at hi
 · rename_i hl
   simp only [decide_eq_true_eq] at hl
   split at hi
   · rename_i q0 own0 hown
     simp (disch := omega) [-List.reduceReplicate]
     refine W_loop (fun (x : Nat × PS × List Nat) => ⟨[(1, .ptr 0 0), (2, .ptr 1 0), (4, .ref 2 l.length), (5, .ref 3 x.2.2.length)],
      [some (.box [.seq 3 (x.2.1.n.map Part.v), .str x.2.1.s, .int .i64 x.2.1.at', .bool x.2.1.bad]), some (.box [.nil 3, .str [], .int .i64 0, .bool false]), some (.arr ty_int 1 (l.map fun (j : Nat) => V.int .i64 (j : Int))), some (.arr ty_int 1 (x.2.2.map fun (j : Nat) => V.int .i64 (j : Int)))]⟩)
      (fun x => ownGo x.1 x.2.1 x.2.2 = some (q0, own0) ∧ x.1 ≤ g) (fun x => x.1) [.r 5 ty_int 1] _ (g, r, []) rfl (by simp) ⟨hown, Nat.le_refl _⟩ ?_
     rintro ⟨g1, t, own⟩ ⟨hi1, hg1⟩ M hM
     simp only at hi1 hg1
     cases g1 with
     | zero => simp [ownGo] at hi1
     | succ g1 =>
     simp only [ownGo] at hi1
     split at hi1
     · rename_i hl0
       simp only [Bool.and_eq_true, decide_eq_true_eq] at hl0
       obtain ⟨hl1, hol⟩ := hl0
       replace hl1 := lim_spec hl1
       have hgo : (goes t = true ∧ t.bad = false ∧ ∃ b, t.s[t.at']? = some b ∧ amongS b.toNat [124, 41] = false) ∨ (goes t = false ∧ (t.bad = true ∨ (t.bad = false ∧ t.s[t.at']? = none) ∨ (t.bad = false ∧ ∃ b, t.s[t.at']? = some b ∧ amongS b.toNat [124, 41] = true))) := by
        unfold goes
        cases t.bad <;> cases h : t.s[t.at']? <;> simp
        all_goals (rename_i b; cases amongS b.toNat [124, 41] <;> simp)
       rcases hgo with ⟨hgo, hbd, b, hb, hab⟩ | ⟨hgo, hrest⟩
       · simp only [hgo, if_true] at hi1
         split at hi1
         · rename_i q1 k1 hp
           have hlt := (List.getElem?_eq_some_iff.1 hb).1
           simp (disch := omega) [-List.reduceReplicate, hbd, hb]
           refine wcall_flat (r := .bool false) (by have := f_ref09_among b.toNat [124, 41]; rwa [hab] at this) rfl fun _ => ?_
           simp (disch := omega) [-List.reduceReplicate, hbd]
           refine wcall_pure (r := .tup [q1.v, .int .i64 k1]) (by have := IH g1 (by omega) t q1 k1 hp; simpa [PS.v, hbd] using this) rfl fun _ => ?_
           simp (disch := omega) [-List.reduceReplicate, PS.v]
           exact hM.out _ <| Nx.mk (g1, q1, own ++ [k1]) (by simp; try rfl) ⟨hi1, by simp only; omega⟩ (by simp only; omega)
         · cases hi1
       · simp only [hgo, Bool.false_eq_true, if_false, Option.some.injEq, Prod.mk.injEq] at hi1
         obtain ⟨rfl, rfl⟩ := hi1
         clear hM
         have hfin : (t.bad = true ∨ (t.bad = false ∧ isP t 124 = false)) → some (addP (addP t ⟨116, [], own⟩) ⟨111, [], l ++ [t.n.length]⟩, t.n.length + 1) = some (q, k) := fun h => by
          rw [if_pos] at hi
          · exact hi
          · rcases h with h | h <;> simp [h]
         have hmore : t.bad = false → isP t 124 = true → brGo g (stepP (addP t ⟨116, [], own⟩)) (l ++ [t.n.length]) = some (q, k) := fun h h' => by
          rw [if_neg] at hi
          · exact hi
          · simp [h, h']
         clear hi
         replace hfin := hid hfin
         replace hmore := hid hmore
         rcases hrest with hbd | ⟨hbd, hb⟩ | ⟨hbd, b, hb, hab⟩
         · simp (disch := omega) [-List.reduceReplicate, hbd]
           refine wcall_kill (r := .tup [(addP t ⟨116, [], own⟩).v, .int .i64 t.n.length]) (by have := f_ref09_add t ⟨116, [], own⟩ (by omega); simpa [PS.v, Part.v, hbd] using this) fun _ => ?_
           simp (disch := omega) [-List.reduceReplicate, PS.v, addP, hbd]
           refine wcall_kill (r := .tup [(addP (addP t ⟨116, [], own⟩) ⟨111, [], l ++ [t.n.length]⟩).v, .int .i64 ((t.n.length + 1 : Nat) : Int)]) (by have := f_ref09_add (addP t ⟨116, [], own⟩) ⟨111, [], l ++ [t.n.length]⟩ (by simp [addP]; omega); simpa [PS.v, Part.v, hbd, addP] using this) fun _ => ?_
           simp (disch := omega) [-List.reduceReplicate, PS.v, addP, hbd]
           have := hfin.out (.inl hbd)
           simp only [Option.some.injEq, Prod.mk.injEq] at this
           simp [hR, ← this.1, ← this.2, PS.v, addP, hbd]
         · have hge : t.s.length ≤ t.at' := by rwa [List.getElem?_eq_none_iff] at hb
           have h124 : isP t 124 = false := by simp [isP, hb]
           simp (disch := omega) [-List.reduceReplicate, hbd]
           refine wcall_kill (r := .tup [(addP t ⟨116, [], own⟩).v, .int .i64 t.n.length]) (by have := f_ref09_add t ⟨116, [], own⟩ (by omega); simpa [PS.v, Part.v, hbd] using this) fun _ => ?_
           simp (disch := omega) [-List.reduceReplicate, PS.v, addP, hbd]
           refine wcall_flat (r := .bool false) (by have := f_ref09_is (addP t ⟨116, [], own⟩) 124; rw [show isP (addP t ⟨116, [], own⟩) 124 = false from h124] at this; simpa [PS.v, hbd, addP] using this) rfl fun _ => ?_
           simp (disch := omega) [-List.reduceReplicate, hbd]
           refine wcall_kill (r := .tup [(addP (addP t ⟨116, [], own⟩) ⟨111, [], l ++ [t.n.length]⟩).v, .int .i64 ((t.n.length + 1 : Nat) : Int)]) (by have := f_ref09_add (addP t ⟨116, [], own⟩) ⟨111, [], l ++ [t.n.length]⟩ (by simp [addP]; omega); simpa [PS.v, Part.v, hbd, addP] using this) fun _ => ?_
           simp (disch := omega) [-List.reduceReplicate, PS.v, addP, hbd]
           have := hfin.out (.inr ⟨hbd, h124⟩)
           simp only [Option.some.injEq, Prod.mk.injEq] at this
           simp [hR, ← this.1, ← this.2, PS.v, addP, hbd]
         · have hlt := (List.getElem?_eq_some_iff.1 hb).1
           simp (disch := omega) [-List.reduceReplicate, hbd, hb]
           refine wcall_flat (r := .bool true) (by have := f_ref09_among b.toNat [124, 41]; rwa [hab] at this) rfl fun _ => ?_
           simp (disch := omega) [-List.reduceReplicate, hbd]
           refine wcall_kill (r := .tup [(addP t ⟨116, [], own⟩).v, .int .i64 t.n.length]) (by have := f_ref09_add t ⟨116, [], own⟩ (by omega); simpa [PS.v, Part.v, hbd] using this) fun _ => ?_
           simp (disch := omega) [-List.reduceReplicate, PS.v, addP, hbd]
           cases h124 : isP t 124
           · refine wcall_flat (r := .bool false) (by have := f_ref09_is (addP t ⟨116, [], own⟩) 124; rw [show isP (addP t ⟨116, [], own⟩) 124 = false from h124] at this; simpa [PS.v, hbd, addP] using this) rfl fun _ => ?_
             simp (disch := omega) [-List.reduceReplicate, hbd]
             refine wcall_kill (r := .tup [(addP (addP t ⟨116, [], own⟩) ⟨111, [], l ++ [t.n.length]⟩).v, .int .i64 ((t.n.length + 1 : Nat) : Int)]) (by have := f_ref09_add (addP t ⟨116, [], own⟩) ⟨111, [], l ++ [t.n.length]⟩ (by simp [addP]; omega); simpa [PS.v, Part.v, hbd, addP] using this) fun _ => ?_
             simp (disch := omega) [-List.reduceReplicate, PS.v, addP, hbd]
             have := hfin.out (.inr ⟨hbd, h124⟩)
             simp only [Option.some.injEq, Prod.mk.injEq] at this
             simp [hR, ← this.1, ← this.2, PS.v, addP, hbd]
           · refine wcall_flat (r := .bool true) (by have := f_ref09_is (addP t ⟨116, [], own⟩) 124; rw [show isP (addP t ⟨116, [], own⟩) 124 = true from h124] at this; simpa [PS.v, hbd, addP] using this) rfl fun _ => ?_
             simp (disch := omega) [-List.reduceReplicate, hbd]
             exact hN.out _ <| Nx.mk (g, stepP (addP t ⟨116, [], own⟩), l ++ [t.n.length]) (by simp [stepP, addP, hbd]; try rfl) ⟨hmore.out hbd h124, by simp only; omega⟩ (by simp only; omega)
     · cases hi1
   · cases hi
 · cases hi
end Go.Abs.F
end
section
set_option maxHeartbeats 4000000
set_option maxRecDepth 100000
namespace Go.Abs.F
open Go.Proofs
attribute [-simp] getElem?_pos Option.not_isSome
theorem PC0 {F : Nat → PS → Option (PS × Nat)} {n : FuncId} (h : ∀ p, F 0 p = none) : PC F n 0 := fun p q k hr => by rw [h] at hr; cases hr
theorem parser : ∀ f, f ≤ 1000000 → PC atomF n_ref09_atom f ∧ PC pieceF n_ref09_piece f ∧ PC branchesF n_ref09_branches f := by
 intro f
 induction f using Nat.strongRecOn with
 | _ f IH =>
   intro hf
   cases f with
   | zero => exact ⟨PC0 fun p => by simp [atomF], PC0 fun p => by simp [pieceF], PC0 fun p => by simp [branchesF]⟩
   | succ f =>
     have h1 := IH f (by omega) (by omega)
     exact ⟨f_ref09_atom f (by omega) h1.2.2, f_ref09_piece f (by omega) h1.1, f_ref09_branches f (by omega) fun g hg => (IH g (by omega) (by omega)).2.1⟩
def parseF (s : Str) : Option (List Part × Nat) := match branchesF 200 ⟨[], s, 0, false⟩ with
 | some (q, k) => if !q.bad && (decide (q.at' = s.length) && decide (q.at' ≤ 1000)) then some (q.n, k) else none
 | none => none
theorem f_ref09_Parse (s : Str) (ps : List Part) (k : Nat) (h : parseF s = some (ps, k)) (hs : s.length ≤ 60) : Fn Tryz.prog n_ref09_Parse [.str s] (.tup [.seq 3 (ps.map Part.v), .int .i64 k, .int .i64 0]) := by
 unfold parseF at h
 split at h
 · rename_i q k0 hb
   split at h
   · rename_i hc
     simp only [Bool.and_eq_true, Bool.not_eq_true', decide_eq_true_eq] at hc
     obtain ⟨hc1, hc2, hc3⟩ := hc
     simp only [Option.some.injEq, Prod.mk.injEq] at h
     obtain ⟨rfl, rfl⟩ := h
     refine Fn.of_image mixed h_ref09_Parse i_ref09_Parse rfl fun ho => ?_
     unfold c_ref09_Parse
     simp only [oks, ok, and_true] at ho
     clear ho
     simp (disch := omega) [-List.reduceReplicate]
     refine wcall_pure (r := .tup [q.v, .int .i64 k0]) (by have := (parser 200 (by omega)).2.2 ⟨[], s, 0, false⟩ q k0 hb; simpa [PS.v] using this) (by simp) fun _ => ?_
     simp (disch := omega) [-List.reduceReplicate, PS.v, hc1, hc2]
   · cases h
 · cases h
def wfB : Nat → List Part → Bool
 | _, [] => true
 | i, p :: l => p.l.all (fun x => decide (x < i)) && ((!decide (p.op = 115) || decide (p.set.length = 95)) && (decide (p.l.length ≤ 1000) && wfB (i + 1) l))
theorem wfB_get : ∀ {l : List Part} {i j : Nat} {p : Part}, wfB i l = true → l[j]? = some p → (∀ x ∈ p.l, x < i + j) ∧ (p.op = 115 → p.set.length = 95) ∧ p.l.length ≤ 1000
 | [], i, j, p, _, h => by simp at h
 | y :: l, i, 0, p, hw, h => by
   simp only [List.getElem?_cons_zero, Option.some.injEq] at h
   subst h
   simp only [wfB, Bool.and_eq_true, List.all_eq_true, decide_eq_true_eq, Bool.or_eq_true, Bool.not_eq_true', decide_eq_false_iff_not] at hw
   refine ⟨fun x hx => by have := hw.1 x hx; omega, fun hp => ?_, hw.2.2.1⟩
   rcases hw.2.1 with h | h
   · exact absurd hp h
   · exact h
 | y :: l, i, j + 1, p, hw, h => by
   simp only [List.getElem?_cons_succ] at h
   simp only [wfB, Bool.and_eq_true] at hw
   have := wfB_get hw.2.2.2 h
   rw [show i + (j + 1) = i + 1 + j by omega]
   exact this
def rxB (s : Str) : Bool := decide (s.length ≤ 60) && match parseF s with
 | some (ps, k) => wfB 0 ps && (decide (ps.length ≤ 1000) && decide (k < ps.length))
 | none => false
def rxM (s v : Str) : Bool := match parseF s with
 | some (ps, k) => matchT ps k v
 | none => false
def idxFrom : Nat → Str → Int
 | _, [] => -1
 | k, b :: l => if b.toNat = 58 then k else idxFrom (k + 1) l
theorem idxFrom_eq : ∀ (s : Str) (k : Nat), idxFrom k s = if 0 ≤ Lib.indexByte s 58 then k + Lib.indexByte s 58 else -1
 | [], k => by simp [idxFrom, Lib.indexByte]
 | b :: l, k => by
   have ih := idxFrom_eq l (k + 1)
   have hg := Lib.indexByte_ge l 58
   have hb : (b.toNat = 58) ↔ b = 58 := by rw [← UInt8.toNat_inj]; rfl
   by_cases h : b = 58
   · have e : Lib.indexByte (b :: l) 58 = 0 := by simp [Lib.indexByte, h]
     rw [idxFrom, if_pos (hb.2 h), e]; simp
   · have e : Lib.indexByte (b :: l) 58 = if Lib.indexByte l 58 = -1 then -1 else Lib.indexByte l 58 + 1 := by simp [Lib.indexByte, h]
     rw [idxFrom, if_neg (fun x => h (hb.1 x)), ih, e]
     by_cases h2 : Lib.indexByte l 58 = -1
     · simp [h2]
     · rw [if_neg h2, if_pos (by omega), if_pos (by omega)]; omega
def allows12 (c : Constraint) (v : Str) : Bool :=
 v.all sign && (decide (c.kind = 1) || ((decide (c.kind = 2) && hasS c.words v) || ((decide (c.kind = 3) && (!(cutB v 58).2.2 || hasS c.words (cutB v 58).1)) || (decide (c.kind = 4) && rxM c.regex v))))
theorem f_ref12_Allows (c : Constraint) (v : Str) (hk : 1 ≤ c.kind ∧ c.kind ≤ 4) (hr : c.kind = 4 → rxB c.regex = true) (hv : v.length ≤ 999999) : Fn Tryz.prog n_ref12_Allows [c.v, .str v] (.bool (allows12 c v)) := by
 refine Fn.of_image mixed h_ref12_Allows i_ref12_Allows rfl fun ho => ?_
 unfold c_ref12_Allows
 simp only [oks, ok, and_true] at ho
 obtain ⟨kd, ws, rx⟩ := c
 simp only at hk hr
 have hlen : ws.length ≤ 140737488355328 := by have := ho.1; simp at this; exact this.2.1.1
 clear ho
 simp (disch := omega) [-List.reduceReplicate]
 refine wcall_flat (f_ref12_signs _) rfl fun _ => ?_
 cases hs : v.all sign
 · simp (disch := omega) [-List.reduceReplicate, allows12, hs]
 · simp (disch := omega) [-List.reduceReplicate]
   have hkk : kd = 1 ∨ kd = 2 ∨ kd = 3 ∨ kd = 4 := by omega
   rcases hkk with rfl | rfl | rfl | rfl
   · simp (disch := omega) [-List.reduceReplicate, allows12, hs]
   · simp (disch := omega) [-List.reduceReplicate]
     have e : allows12 ⟨2, ws, rx⟩ v = hasS ws v := by simp [allows12, hs]
     rw [e]
     generalize hR : hasS ws v = R
     refine W_loop (fun k : Nat => ⟨[(1, .str v), (2, .ptr 0 0), (6, .int .i64 k)], [some (.box [.int .i64 2, .seq 1 (ws.map .str), .str rx])]⟩) (fun k => k ≤ ws.length ∧ hasS (ws.drop k) v = R) (fun k => ws.length - k) [] _ 0 rfl (by simp [*]) (by simp [*]) ?_
     rintro k ⟨hk, hi⟩ N hN
     rcases place ws k hk with ⟨he, hd⟩ | ⟨hlt, x, hx, hd⟩ <;> rw [hd] at hi <;> replace hi := hid hi
     · simp (disch := omega) [-List.reduceReplicate, he]
       simpa [hasS] using hi.out
     · simp (disch := omega) [-List.reduceReplicate, hx]
       repeat' (first | (refine BrKd.mk (fun h => ?_) (fun h => ?_) <;> simp (disch := omega) [*]) | (refine BrK.mk (fun h => ?_) (fun h => ?_) <;> simp (disch := omega) [*]))
       all_goals first
        | (refine hN.out _ <| Nx.mk (k + 1) (by simp [*]) ⟨by omega, ?_⟩ (by omega); simpa (disch := omega) [*, decide_eq_true, decide_eq_false, hasS] using hi.out)
        | (first | simpa (disch := omega) [*, decide_eq_true, decide_eq_false, hasS] using hi.out.symm | simpa (disch := omega) [*, decide_eq_true, decide_eq_false, hasS] using hi.out)
   · simp (disch := omega) [-List.reduceReplicate]
     have hix := idxFrom_eq v 0
     have hb := indexByte_lt 58 v
     have hg := Lib.indexByte_ge v 58
     obtain ⟨T, hT⟩ : ∃ T, T = idxFrom 0 v := ⟨_, rfl⟩
     rw [← hT] at hix
     have hTb : T = -1 ∨ (0 ≤ T ∧ T < v.length) := by rw [hix]; split <;> omega
     have e : allows12 ⟨3, ws, rx⟩ v = (decide (T < 0) || hasS ws (v.take T.toNat)) := by
      simp only [allows12, hs, cutB, hix]
      by_cases h : 0 ≤ Lib.indexByte v 58
      · simp [h, show ¬ Lib.indexByte v 58 < 0 by omega]
      · simp [h]
     rw [e]
     generalize hR : (decide (T < 0) || hasS ws (v.take T.toNat)) = R
     refine W_loop (fun (q : Nat × Int) => ⟨[(1, .str v), (2, .ptr 0 0), (7, .int .i64 q.2), (8, .int .i64 q.1)], [some (.box [.int .i64 3, .seq 1 (ws.map .str), .str rx])]⟩)
      (fun q => q.1 ≤ v.length ∧ ((q.2 = -1 ∧ idxFrom q.1 (v.drop q.1) = T) ∨ (q.2 = T ∧ 0 ≤ T))) (fun q => v.length - q.1) [] _ (0, -1) rfl (by simp) (by simp [hT]) ?_
     rintro ⟨k, at'⟩ ⟨hk, hi⟩ N hN
     simp only at hk hi
     rcases hi with ⟨rfl, hi⟩ | ⟨rfl, hT0⟩
     · rcases place v k hk with ⟨he, hd⟩ | ⟨hlt, x, hx, hd⟩ <;> rw [hd] at hi
       · simp only [idxFrom] at hi
         subst hi
         simp (disch := omega) [-List.reduceReplicate, he]
         simpa using hR
       · simp only [idxFrom] at hi
         replace hi := hid hi
         simp (disch := omega) [-List.reduceReplicate, hx]
         refine BrKd.mk (fun h => ?_) (fun h => ?_)
         · have hi := hi.out
           rw [if_pos (by omega)] at hi
           simp (disch := omega) [-List.reduceReplicate, h]
           exact hN.out _ <| Nx.mk (k + 1, (k : Int)) (by simp) ⟨by simp only; omega, .inr ⟨hi, by omega⟩⟩ (by simp only; omega)
         · have hi := hi.out
           rw [if_neg (by omega)] at hi
           simp (disch := omega) [-List.reduceReplicate, h]
           exact hN.out _ <| Nx.mk (k + 1, (-1 : Int)) (by simp) ⟨by simp only; omega, .inl ⟨rfl, hi⟩⟩ (by simp only; omega)
     · obtain ⟨t, rfl⟩ := Int.eq_ofNat_of_zero_le hT0
       have htl : t < v.length := by omega
       simp only [show decide ((t : Int) < 0) = false by simp, Bool.false_or, Int.toNat_natCast] at hR
       clear hN
       rcases Nat.lt_or_ge k v.length with hkl | hkl
       all_goals
        simp (disch := omega) [-List.reduceReplicate]
        refine W_loop (fun (j : Nat) => ⟨[(1, .str v), (2, .ptr 0 0), (7, .int .i64 t), (9, .int .i64 j)], [some (.box [.int .i64 3, .seq 1 (ws.map .str), .str rx])]⟩)
         (fun j => j ≤ ws.length ∧ hasS (ws.drop j) (v.take t) = R) (fun j => ws.length - j) [] _ 0 rfl (by simp) (by simp [hR]) ?_
        rintro j ⟨hj, hi⟩ M hM
        rcases place ws j hj with ⟨he, hd⟩ | ⟨hlt, x, hx, hd⟩ <;> rw [hd] at hi
        · simp (disch := omega) [-List.reduceReplicate, he]
          simpa [hasS] using hi
        · simp only [hasS] at hi
          replace hi := hid hi
          simp (disch := omega) [-List.reduceReplicate, hx]
          refine BrKd.mk (fun h => ?_) (fun h => ?_)
          · have hi := hi.out
            rw [if_pos (by simpa using h)] at hi
            simp (disch := omega) [-List.reduceReplicate, h]
            simpa using hi
          · have hi := hi.out
            rw [if_neg (by simpa using h)] at hi
            simp (disch := omega) [-List.reduceReplicate, h]
            exact hM.out _ <| Nx.mk (j + 1) (by simp) ⟨by omega, hi⟩ (by omega)
   · simp (disch := omega) [-List.reduceReplicate]
     have hb := hr rfl
     simp only [rxB, Bool.and_eq_true, decide_eq_true_eq] at hb
     obtain ⟨hb1, hb2⟩ := hb
     have e : allows12 ⟨4, ws, rx⟩ v = rxM rx v := by simp [allows12, hs]
     rw [e]
     unfold rxM
     split at hb2
     · rename_i ps k hp
       simp only [Bool.and_eq_true, decide_eq_true_eq] at hb2
       obtain ⟨hw, hpl, hkl⟩ := hb2
       try simp only [hp]
       refine wcall_pure (f_ref09_Parse rx ps k hp hb1) (by simp) fun _ => ?_
       simp (disch := omega) [-List.reduceReplicate]
       refine wcall_flat (by simpa using f_ref09_Match ps k v ⟨hpl, fun i p h => by have := wfB_get hw h; rwa [Nat.zero_add] at this⟩ hkl (by omega)) rfl fun _ => ?_
       simp
     · cases hb2
theorem pool_ok : pool12.all rxB = true := by decide +kernel
end Go.Abs.F
end
section
namespace Go.Abs
open Go.Aut
attribute [-simp] getElem?_pos Option.not_isSome List.map_map cl nt
def seg (u : List Nat) (i k : Nat) : List Nat := (u.take k).drop i
def Mean (u : List Nat) (T : F.Tab) (L : Lg) : Prop := ∀ i k, i ≤ u.length → k ≤ u.length → (T i k = true ↔ i ≤ k ∧ L (seg u i k))
def eps : Lg := fun w => w = []
def non : Lg := fun _ => False
def alt (A B : Lg) : Lg := fun w => A w ∨ B w
theorem seg_len {u : List Nat} {i k : Nat} (hi : i ≤ k) (hk : k ≤ u.length) : (seg u i k).length = k - i := by simp [seg]; omega
theorem seg_app {u : List Nat} {i x k : Nat} (h1 : i ≤ x) (h2 : x ≤ k) : seg u i k = seg u i x ++ seg u x k := by
 simp only [seg]
 have e : u.take k = u.take x ++ (u.take k).drop x := by
  conv => lhs; rw [← List.take_append_drop x (u.take k)]
  rw [List.take_take, Nat.min_eq_left h2]
 by_cases hx : x ≤ u.length
 · conv => lhs; rw [e]
   rw [List.drop_append_of_le_length (by simp; omega)]
 · rw [List.take_of_length_le (l := u) (i := k) (by omega), List.take_of_length_le (l := u) (i := x) (by omega), List.drop_of_length_le (l := u) (i := x) (by omega), List.append_nil]
theorem seg_split {u a b : List Nat} {i k : Nat} (hi : i ≤ k) (hk : k ≤ u.length) (h : seg u i k = a ++ b) : i + a.length ≤ k ∧ seg u i (i + a.length) = a ∧ seg u (i + a.length) k = b := by
 have hl := seg_len hi hk
 rw [h, List.length_append] at hl
 have h1 : i + a.length ≤ k := by omega
 have h2 := seg_app (u := u) (Nat.le_add_right i a.length) h1
 rw [h] at h2
 have h3 := List.append_inj h2 (by rw [seg_len (by omega) (by omega)]; omega)
 exact ⟨h1, h3.1.symm, h3.2.symm⟩
theorem mean_both {u : List Nat} {f g : F.Tab} {A B : Lg} (hf : Mean u f A) (hg : Mean u g B) : Mean u (F.both1 f g) (alt A B) := fun i k hi hk => by
 simp only [F.both1, Bool.or_eq_true, hf i k hi hk, hg i k hi hk, alt, and_or_left]
theorem mean_jon {u : List Nat} {f g : F.Tab} {A B : Lg} (hf : Mean u f A) (hg : Mean u g B) : Mean u (F.jon (u.length + 1) f g) (cat A B) := fun i k hi hk => by
 simp only [F.jon, F.jo, List.any_eq_true, List.mem_range, Bool.and_eq_true, decide_eq_true_eq, cat]
 constructor
 · rintro ⟨x, hx, hxk, h1, h2⟩
   obtain ⟨g1, g2⟩ := (hf i x hi (by omega)).1 h1
   obtain ⟨g3, g4⟩ := (hg x k (by omega) hk).1 h2
   exact ⟨by omega, _, _, seg_app g1 g3, g2, g4⟩
 · rintro ⟨hik, a, b, h, ha, hb⟩
   obtain ⟨h1, h2, h3⟩ := seg_split hik hk h
   exact ⟨i + a.length, by omega, h1, (hf _ _ hi (by omega)).2 ⟨by omega, by rw [h2]; exact ha⟩, (hg _ _ (by omega) hk).2 ⟨h1, by rw [h3]; exact hb⟩⟩
/-! ### Languages -/
theorem cat_assoc (A B C : Lg) : cat (cat A B) C = cat A (cat B C) := by
 funext w
 refine propext ⟨?_, ?_⟩
 · rintro ⟨_, c, rfl, ⟨a, b, rfl, ha, hb⟩, hc⟩
   exact ⟨a, b ++ c, by simp, ha, b, c, rfl, hb, hc⟩
 · rintro ⟨a, _, rfl, ha, b, c, rfl, hb, hc⟩
   exact ⟨a ++ b, c, by simp, ⟨a, b, rfl, ha, hb⟩, hc⟩
theorem cat_eps_l (A : Lg) : cat eps A = A := by
 funext w
 refine propext ⟨?_, fun h => ⟨[], w, rfl, rfl, h⟩⟩
 rintro ⟨a, b, rfl, rfl, h⟩
 exact h
theorem cat_eps_r (A : Lg) : cat A eps = A := by
 funext w
 refine propext ⟨?_, fun h => ⟨w, [], by simp, h, rfl⟩⟩
 rintro ⟨a, b, rfl, h, rfl⟩
 simpa using h
theorem alt_non_l (A : Lg) : alt non A = A := by funext w; simp [alt, non]
theorem alt_non_r (A : Lg) : alt A non = A := by funext w; simp [alt, non]
theorem alt_assoc (A B C : Lg) : alt (alt A B) C = alt A (alt B C) := by funext w; simp [alt, or_assoc]
theorem _root_.Go.Aut.Star.app {L : Lg} {a b : List Nat} (ha : Star L a) (hb : Star L b) : Star L (a ++ b) := by
 induction hb with
 | nil => simpa using ha
 | snoc _ h ih => rw [← List.append_assoc]; exact .snoc ih h
inductive Pw (L : Lg) : Nat → Lg
 | nil : Pw L 0 []
 | cons {j : Nat} {a b : List Nat} : L a → Pw L j b → Pw L (j + 1) (a ++ b)
theorem Pw.snoc {L : Lg} {j : Nat} {a b : List Nat} (h : Pw L j a) (hb : L b) : Pw L (j + 1) (a ++ b) := by
 induction h with
 | nil => simpa using Pw.cons hb .nil
 | cons h1 _ ih => rw [List.append_assoc]; exact .cons h1 ih
theorem Pw.star {L : Lg} {j : Nat} {a : List Nat} (h : Pw L j a) : Star L a := by
 induction h with
 | nil => exact .nil
 | cons h1 _ ih => exact (Star.one h1).app ih
theorem _root_.Go.Aut.Star.pw {L : Lg} {a : List Nat} (h : Star L a) : ∃ j, j ≤ a.length ∧ Pw L j a := by
 induction h with
 | nil => exact ⟨0, by simp, .nil⟩
 | @snoc u v h1 h2 ih =>
   obtain ⟨j, hj, hp⟩ := ih
   rcases v with _ | ⟨x, v⟩
   · exact ⟨j, by simpa using hj, by simpa using hp⟩
   · exact ⟨j + 1, by simp; omega, hp.snoc h2⟩
theorem plus_eq (A : Lg) : plus A = cat A (Star A) := by
 funext w
 refine propext ⟨?_, ?_⟩
 · rintro ⟨a, b, rfl, ha, hb⟩
   obtain ⟨j, _, hp⟩ := ha.pw
   have h2 := hp.snoc hb
   generalize a ++ b = w at h2
   cases h2 with
   | cons h1 h2 => exact ⟨_, _, rfl, h1, h2.star⟩
 · rintro ⟨a, b, rfl, ha, hb⟩
   have h2 : Star A (a ++ b) := (Star.one ha).app hb
   obtain ⟨j, _, hp⟩ := hb.pw
   clear h2
   induction hb generalizing a with
   | nil => exact ⟨[], a, by simp, .nil, ha⟩
   | @snoc u v h1 h2 ih => exact ⟨a ++ u, v, by simp, (Star.one ha).app h1, h2⟩
def stN (B : Lg) : Nat → Lg → Lg
 | 0, A => A
 | t + 1, A => stN B t (alt A (cat A B))
theorem mean_starN {u : List Nat} {g : F.Tab} {B : Lg} (hg : Mean u g B) : ∀ (t : Nat) {f : F.Tab} {A : Lg}, Mean u f A → Mean u (F.star (u.length + 1) g t f) (stN B t A)
 | 0, f, A, h => h
 | t + 1, f, A, h => mean_starN hg t (mean_both h (mean_jon h hg))
theorem stN_sub {B : Lg} : ∀ (t : Nat) {A : Lg} {w : List Nat}, stN B t A w → cat A (Star B) w
 | 0, A, w, h => ⟨w, [], by simp, h, .nil⟩
 | t + 1, A, w, h => by
   obtain ⟨a, b, rfl, ha, hb⟩ := stN_sub t h
   rcases ha with ha | ⟨a1, a2, rfl, h1, h2⟩
   · exact ⟨a, b, rfl, ha, hb⟩
   · exact ⟨a1, a2 ++ b, by simp, h1, (Star.one h2).app hb⟩
theorem stN_pw {B : Lg} : ∀ (t : Nat) {A : Lg} {j : Nat} {a b : List Nat}, j ≤ t → A a → Pw B j b → stN B t A (a ++ b)
 | 0, A, j, a, b, hj, ha, hb => by
   obtain rfl : j = 0 := by omega
   cases hb
   simpa [stN] using ha
 | t + 1, A, j, a, b, hj, ha, hb => by
   cases hb with
   | nil => exact stN_pw t (A := alt A (cat A B)) (j := 0) (by omega) (.inl ha) .nil
   | @cons j b1 b2 h1 h2 =>
     rw [← List.append_assoc]
     exact stN_pw t (A := alt A (cat A B)) (by omega) (.inr ⟨a, b1, rfl, ha, h1⟩) h2
theorem mean_star {u : List Nat} {f g : F.Tab} {A B : Lg} (hf : Mean u f A) (hg : Mean u g B) : Mean u (F.star (u.length + 1) g (u.length + 1) f) (cat A (Star B)) := fun i k hi hk => by
 rw [mean_starN hg (u.length + 1) hf i k hi hk]
 refine and_congr_right fun hik => ⟨stN_sub _, ?_⟩
 rintro ⟨a, b, h, ha, hb⟩
 have hl := seg_len hik hk
 rw [h, List.length_append] at hl
 obtain ⟨j, hj, hp⟩ := hb.pw
 rw [h]
 exact stN_pw _ (by omega) ha hp
/-! ### Parts -/
def baseL (p : F.Part) : Lg := if p.op = 115 then den (.set p.set) else if p.op = 116 ∨ p.op = 109 then eps else non
def kidL (op : Nat) (A B : Lg) : Lg := if op = 111 then alt A B else if op = 116 then cat A B else if op = 109 then cat A (Star B) else A
def kidsL (op : Nat) (ls : List Lg) : Lg → List Nat → Lg
 | A, [] => A
 | A, x :: l => kidsL op ls (kidL op A ((ls[x]?).getD non)) l
def langsGo : List Lg → List F.Part → List Lg
 | acc, [] => acc
 | acc, p :: ps => langsGo (acc ++ [kidsL p.op acc (baseL p) p.l]) ps
def partL (ps : List F.Part) (k : Nat) : Lg := ((langsGo [] (ps.take (k + 1)))[k]?).getD non
theorem mean_kid {u : List Nat} {op : Nat} {f g : F.Tab} {A B : Lg} (hf : Mean u f A) (hg : Mean u g B) : Mean u (F.kid (u.length + 1) op f g) (kidL op A B) := by
 unfold F.kid kidL
 split
 · exact mean_both hf hg
 · split
   · exact mean_jon hf hg
   · split
     · exact mean_star hf hg
     · exact hf
theorem mean_non {u : List Nat} : Mean u (fun _ _ => false) non := fun i k _ _ => by simp [non]
def MeanS (u : List Nat) (tabs : List F.Tab) (ls : List Lg) : Prop := tabs.length = ls.length ∧ ∀ x : Nat, Mean u ((tabs[x]?).getD fun _ _ => false) ((ls[x]?).getD non)
theorem mean_kids {u : List Nat} {op : Nat} {tabs : List F.Tab} {ls : List Lg} (h : MeanS u tabs ls) : ∀ (l : List Nat) {f : F.Tab} {A : Lg}, Mean u f A → Mean u (F.kidT (u.length + 1) op tabs f l) (kidsL op ls A l)
 | [], f, A, hf => hf
 | x :: l, f, A, hf => mean_kids h l (mean_kid hf (h.2 x))
theorem seg_none {u : List Nat} {i k : Nat} (hi : i ≤ u.length) (hk : k ≤ u.length) : (i ≤ k ∧ seg u i k = []) ↔ k = i := by
 constructor
 · rintro ⟨h, h2⟩
   have := seg_len h hk
   rw [h2] at this
   simp at this; omega
 · rintro rfl
   exact ⟨Nat.le_refl _, by simp [seg]⟩
theorem seg_one {u : List Nat} {i k c : Nat} (hk : k ≤ u.length) : (i ≤ k ∧ seg u i k = [c]) ↔ (k = i + 1 ∧ u[i]? = some c) := by
 constructor
 · rintro ⟨h, h2⟩
   have := seg_len h hk
   rw [h2] at this
   simp at this
   obtain rfl : k = i + 1 := by omega
   refine ⟨rfl, ?_⟩
   have := congrArg (fun l => l[0]?) h2
   simpa [seg, List.getElem?_take] using this
 · rintro ⟨rfl, h⟩
   refine ⟨by omega, ?_⟩
   have hl := seg_len (u := u) (i := i) (k := i + 1) (by omega) hk
   have h0 : (seg u i (i + 1))[0]? = some c := by simpa [seg, List.getElem?_take] using h
   rcases hs : seg u i (i + 1) with _ | ⟨a, _ | ⟨b, l⟩⟩
   · rw [hs] at h0; simp at h0
   · rw [hs] at h0; simpa using h0
   · rw [hs] at hl; simp at hl
theorem sgn_true {c : UInt8} (h : 32 ≤ c.toNat ∧ c.toNat ≤ 126) : F.sgn c = true := by simp [F.sgn, h]
theorem mean_base {s : Str} (hs : sgnS s) (p : F.Part) : Mean (sw s) (F.base p s) (baseL p) := fun i k hi hk => by
 have hl : (sw s).length = s.length := by simp [sw]
 have hget : ∀ i : Nat, (sw s)[i]? = (s[i]?).map fun c => c.toNat - 32 := fun i => by simp [sw]
 by_cases h115 : p.op = 115
 · have n1 : ¬p.op = 116 := by omega
   have n2 : ¬p.op = 109 := by omega
   unfold F.base baseL
   rw [if_pos h115]
   have hr : (i ≤ k ∧ den (.set p.set) (seg (sw s) i k)) ↔ (k = i + 1 ∧ ∃ c, (sw s)[i]? = some c ∧ p.set[c]? = some true) := by
    simp only [den]
    constructor
    · rintro ⟨h1, c, h2, h3⟩
      obtain ⟨g1, g2⟩ := (seg_one hk).1 ⟨h1, h2⟩
      exact ⟨g1, c, g2, h3⟩
    · rintro ⟨h1, c, h2, h3⟩
      obtain ⟨g1, g2⟩ := (seg_one hk).2 ⟨h1, h2⟩
      exact ⟨g1, c, g2, h3⟩
   rw [hr]
   rcases hc : s[i]? with _ | c
   · simp [F.sub, n1, n2, hget, hc]
   · have hcs := hs c (List.mem_of_getElem? hc)
     simp only [if_pos (show p.op = 115 ∧ F.sgn c = true from ⟨h115, sgn_true hcs⟩), F.sub, n1, n2, decide_false, Bool.or_false, ite_self, hget, hc, Option.map_some, Option.some.injEq, exists_eq_left']
     by_cases hk2 : k = i + 1
     · subst hk2
       simp only [if_true, true_and]
       rcases p.set[c.toNat - 32]? with _ | b <;> simp
     · simp [hk2]
 · have e : F.base p s i = F.sub i (decide (p.op = 116) || decide (p.op = 109)) fun _ => false := by
    unfold F.base
    split
    · exact if_neg fun h => h115 h.1
    · rfl
   rw [baseL, if_neg h115]
   rw [e]
   by_cases ho : p.op = 116 ∨ p.op = 109
   · rw [if_pos ho]
     have hb : (decide (p.op = 116) || decide (p.op = 109)) = true := by simpa using ho
     rw [hb]
     simp only [eps]
     rw [seg_none hi hk]
     simp [F.sub]
   · rw [if_neg ho]
     have hb : (decide (p.op = 116) || decide (p.op = 109)) = false := by simpa using ho
     rw [hb]
     simp [F.sub, non]
theorem mean_step {s : Str} (hs : sgnS s) {tabs : List F.Tab} {ls : List Lg} (h : MeanS (sw s) tabs ls) (p : F.Part) : Mean (sw s) (F.stepT p s tabs) (kidsL p.op ls (baseL p) p.l) := by
 have := mean_kids (op := p.op) h p.l (mean_base hs p)
 rwa [show (sw s).length = s.length by simp [sw]] at this
theorem mean_tabs {s : Str} (hs : sgnS s) : ∀ (ps : List F.Part) {tabs : List F.Tab} {ls : List Lg}, MeanS (sw s) tabs ls → MeanS (sw s) (F.tabsGo s tabs ps) (langsGo ls ps)
 | [], tabs, ls, h => h
 | p :: ps, tabs, ls, h => by
   refine mean_tabs hs ps ⟨by simp [h.1], fun x => ?_⟩
   rcases Nat.lt_trichotomy x tabs.length with hx | hx | hx
   · rw [List.getElem?_append_left hx, List.getElem?_append_left (by rw [← h.1]; exact hx)]
     exact h.2 x
   · rw [List.getElem?_append_right (by omega), List.getElem?_append_right (by rw [← h.1]; omega), ← h.1, hx]
     simpa using mean_step hs h p
   · rw [List.getElem?_eq_none (by simp; omega), List.getElem?_eq_none (by simp; rw [← h.1]; omega)]
     exact mean_non
theorem matchT_iff {s : Str} (hs : sgnS s) (ps : List F.Part) (k : Nat) : F.matchT ps k s = true ↔ partL ps k (sw s) := by
 have h := (mean_tabs hs (ps.take (k + 1)) (tabs := []) (ls := []) ⟨rfl, fun x => by simpa using mean_non⟩).2 k 0 s.length (by simp) (by simp [sw])
 unfold F.matchT partL
 rw [h]
 have e : seg (sw s) 0 s.length = sw s := by rw [seg, List.drop_zero, List.take_of_length_le (by simp [sw])]
 rw [e]
 simp
end Go.Abs
end
section
set_option maxHeartbeats 1000000
set_option maxRecDepth 100000
namespace Go.Abs
open Go.Aut
attribute [-simp] getElem?_pos Option.not_isSome List.map_map cl nt
theorem den_nil : den (.seq []) = eps := by funext w; simp [den, denS, eps]
theorem denS_nil_eq : denS [] = eps := by funext w; simp [denS, eps]
theorem denS_cons_eq (p : Rx) (l : List Rx) : denS (p :: l) = cat (den p) (denS l) := by funext w; simp only [denS]
theorem den_seq_eq (l : List Rx) : den (.seq l) = denS l := by funext w; simp only [den]
theorem denA_nil_eq : denA [] = non := by funext w; simp only [denA, non]
theorem denA_cons_eq (p : Rx) (l : List Rx) : denA (p :: l) = alt (den p) (denA l) := by funext w; simp only [denA, alt]
theorem den_alt_eq (l : List Rx) : den (.alt l) = denA l := by funext w; simp only [den]
theorem den_star_eq (p : Rx) : den (.rep p 42) = Star (den p) := by
 funext w; simp only [den, if_neg (show ¬(42 : Nat) = 63 by omega), if_true]
theorem den_plus_eq (p : Rx) : den (.rep p 43) = cat (den p) (Star (den p)) := by
 rw [← plus_eq]; funext w; simp only [den, if_neg (show ¬(43 : Nat) = 63 by omega), if_neg (show ¬(43 : Nat) = 42 by omega)]
def ps0 : List F.Part := [⟨115, oneS 65, []⟩, ⟨109, [], [0]⟩, ⟨116, [], [1]⟩, ⟨111, [], [2]⟩]
def ps1 : List F.Part := [⟨115, oneS 65, []⟩, ⟨116, [], [0]⟩, ⟨115, oneS 66, []⟩, ⟨116, [], [2]⟩, ⟨111, [], [1, 3]⟩, ⟨109, [], [4]⟩, ⟨116, [], [4, 5]⟩, ⟨116, [], [6]⟩, ⟨111, [], [7]⟩]
def ps2 : List F.Part := [⟨115, digS, []⟩, ⟨109, [], [0]⟩, ⟨116, [], [0, 1]⟩, ⟨116, [], [2]⟩, ⟨111, [], [3]⟩]
def ps3 : List F.Part := [⟨115, oneS 88, []⟩, ⟨115, allS, []⟩, ⟨115, oneS 89, []⟩, ⟨116, [], [0, 1, 2]⟩, ⟨111, [], [3]⟩]
def ps4 : List F.Part := [⟨115, notS 65, []⟩, ⟨109, [], [0]⟩, ⟨116, [], [1]⟩, ⟨111, [], [2]⟩]
def ps5 : List F.Part := [⟨116, [], []⟩, ⟨111, [], [0]⟩]
def ps6 : List F.Part := [⟨115, oneS 65, []⟩, ⟨116, [], [0]⟩, ⟨115, oneS 66, []⟩, ⟨115, oneS 66, []⟩, ⟨116, [], [2, 3]⟩, ⟨115, oneS 67, []⟩, ⟨116, [], [5]⟩, ⟨111, [], [1, 4, 6]⟩]
theorem parse_0 : F.parseF [97, 42] = some (ps0, 3) := by kernel_rfl
theorem parse_1 : F.parseF [40, 97, 124, 98, 41, 43] = some (ps1, 8) := by kernel_rfl
theorem parse_2 : F.parseF [91, 48, 45, 57, 93, 43] = some (ps2, 4) := by kernel_rfl
theorem parse_3 : F.parseF [120, 46, 121] = some (ps3, 4) := by kernel_rfl
theorem parse_4 : F.parseF [91, 94, 97, 93, 42] = some (ps4, 3) := by kernel_rfl
theorem parse_5 : F.parseF [] = some (ps5, 1) := by kernel_rfl
theorem parse_6 : F.parseF [97, 124, 98, 98, 124, 99] = some (ps6, 7) := by kernel_rfl
theorem part_0 : partL ps0 3 = den rx0 := by
 simp [partL, ps0, langsGo, kidsL, kidL, baseL, cat_eps_l, alt_non_l, rx0, den_star_eq]
theorem part_1 : partL ps1 8 = den rx1 := by
 simp [partL, ps1, langsGo, kidsL, kidL, baseL, cat_eps_l, alt_non_l, alt_non_r, rx1, den_plus_eq, den_alt_eq, denA_cons_eq, denA_nil_eq]
theorem part_2 : partL ps2 4 = den rx2 := by
 simp [partL, ps2, langsGo, kidsL, kidL, baseL, cat_eps_l, alt_non_l, rx2, den_plus_eq]
theorem part_3 : partL ps3 4 = den rx3 := by
 simp [partL, ps3, langsGo, kidsL, kidL, baseL, cat_eps_l, cat_eps_r, cat_assoc, alt_non_l, rx3, den_seq_eq, denS_cons_eq, denS_nil_eq]
theorem part_4 : partL ps4 3 = den rx4 := by
 simp [partL, ps4, langsGo, kidsL, kidL, baseL, cat_eps_l, alt_non_l, rx4, den_star_eq]
theorem part_5 : partL ps5 1 = den rx5 := by
 simp [partL, ps5, langsGo, kidsL, kidL, baseL, alt_non_l, rx5, den_nil]
theorem part_6 : partL ps6 7 = den rx6 := by
 simp [partL, ps6, langsGo, kidsL, kidL, baseL, cat_eps_l, cat_eps_r, alt_non_l, alt_non_r, alt_assoc, rx6, den_alt_eq, denA_cons_eq, denA_nil_eq, den_seq_eq, denS_cons_eq, denS_nil_eq]
theorem rxM_iff {s : Str} {x : Rx} (h : (s, x) ∈ poolX) (hp : s ∈ F.pool12) {v : Str} (hv : sgnS v) : F.rxM s v = true ↔ den x (sw v) := by
 have go : ∀ {s : Str} {ps : List F.Part} {k : Nat} {x : Rx}, F.parseF s = some (ps, k) → partL ps k = den x → (F.rxM s v = true ↔ den x (sw v)) := by
  intro s ps k x h1 h2
  rw [F.rxM, h1, ← h2]
  exact matchT_iff hv ps k
 simp only [poolX, List.mem_cons, Prod.mk.injEq, List.not_mem_nil, or_false] at h
 rcases h with ⟨rfl, rfl⟩ | ⟨rfl, rfl⟩ | ⟨rfl, rfl⟩ | ⟨rfl, rfl⟩ | ⟨rfl, rfl⟩ | ⟨rfl, rfl⟩ | ⟨rfl, rfl⟩ | ⟨rfl, rfl⟩ | ⟨rfl, rfl⟩
 · exact go parse_0 part_0
 · exact go parse_1 part_1
 · exact go parse_2 part_2
 · exact go parse_3 part_3
 · exact go parse_4 part_4
 · exact go parse_5 part_5
 · exact go parse_6 part_6
 · simp [F.pool12] at hp
 · simp [F.pool12] at hp
theorem all_sign {v : Str} : v.all F.sign = true ↔ sgnS v := by
 simp only [List.all_eq_true, F.sign, Bool.and_eq_true, decide_eq_true_eq, sgnS]
theorem hasS_iff {s : Str} : ∀ {l : List Str}, F.hasS l s = true ↔ s ∈ l
 | [] => by simp [F.hasS]
 | x :: l => by
   rw [F.hasS, List.mem_cons]
   by_cases h : x = s
   · simp [h]
   · rw [if_neg h, hasS_iff]
     exact ⟨.inr, fun h2 => h2.resolve_left fun e => h e.symm⟩
theorem idx_split (c : UInt8) : ∀ l : Str, ((∀ x ∈ l, x ≠ c) ∧ Lib.indexByte l c = -1) ∨ ∃ a b : Str, l = a ++ c :: b ∧ (∀ x ∈ a, x ≠ c) ∧ Lib.indexByte l c = a.length
 | [] => .inl ⟨by simp, by simp [Lib.indexByte]⟩
 | y :: l => by
   by_cases h : y = c
   · exact .inr ⟨[], l, by simp [h], by simp, by simp [Lib.indexByte, h]⟩
   · rcases idx_split c l with ⟨h1, h2⟩ | ⟨a, b, rfl, h1, h2⟩
     · refine .inl ⟨fun x hx => ?_, by simp [Lib.indexByte, h, h2]⟩
       rcases List.mem_cons.1 hx with rfl | hx
       · exact h
       · exact h1 x hx
     · refine .inr ⟨y :: a, b, by simp, fun x hx => ?_, ?_⟩
       · rcases List.mem_cons.1 hx with rfl | hx
         · exact h
         · exact h1 x hx
       · have : ¬((a.length : Int) = -1) := by omega
         simp [Lib.indexByte, h, h2, this]
theorem cut_colon (v : Str) : ((∀ c ∈ v, c ≠ 58) ∧ (F.cutB v 58).2.2 = false) ∨ ∃ a b : Str, v = a ++ 58 :: b ∧ (∀ c ∈ a, c ≠ 58) ∧ (F.cutB v 58).2.2 = true ∧ (F.cutB v 58).1 = a := by
 rcases idx_split 58 v with ⟨h1, h2⟩ | ⟨a, b, e, h1, h2⟩
 · exact .inl ⟨h1, by rw [F.cutB, h2]; rfl⟩
 · have h : 0 ≤ Lib.indexByte v 58 := by omega
   refine .inr ⟨a, b, e, h1, by rw [F.cutB, if_pos h], ?_⟩
   rw [F.cutB, if_pos h, h2, e]
   simp
theorem first_eq {x : Nat} : ∀ {a b c d : List Nat}, a ++ x :: b = c ++ x :: d → x ∉ a → x ∉ c → a = c
 | [], b, [], d, h, ha, hc => rfl
 | [], b, y :: c, d, h, ha, hc => by
   simp only [List.nil_append, List.cons_append, List.cons.injEq] at h
   exact absurd (h.1 ▸ List.mem_cons_self) hc
 | y :: a, b, [], d, h, ha, hc => by
   simp only [List.nil_append, List.cons_append, List.cons.injEq] at h
   exact absurd (h.1 ▸ List.mem_cons_self) ha
 | y :: a, b, z :: c, d, h, ha, hc => by
   simp only [List.cons_append, List.cons.injEq] at h
   rw [h.1, first_eq h.2 (fun m => ha (by simp [m])) (fun m => hc (by simp [m]))]
theorem sw_no {a : Str} (h : ∀ c ∈ a, c ≠ 58) (hs : sgnS a) : 26 ∉ sw a := fun hm => by
 simp only [sw, List.mem_map] at hm
 obtain ⟨c, hc, he⟩ := hm
 refine h c hc ?_
 have := hs c hc
 rw [← UInt8.toNat_inj]
 show c.toNat = 58
 omega
theorem allows12_iff {c : F.Constraint} {x : Rx} (h : GoodC c x) (v : Str) : F.allows12 c v = true ↔ sgnS v ∧ den x (sw v) := by
 unfold F.allows12
 rw [Bool.and_eq_true, all_sign]
 refine and_congr_right fun hv => ?_
 cases h with
 | any =>
   have := den_rx7 (u := sw v)
   simp only [decide_true, Bool.true_or, this, true_iff]
   exact sw_lt hv
 | @enum ws h1 h2 h3 =>
   rw [den_enum fun w hw => (words_enum h2 w hw).1]
   simp only [show ¬((2 : Int) = 1) by omega, show ¬((2 : Int) = 3) by omega, show ¬((2 : Int) = 4) by omega, decide_false, decide_true, Bool.false_or, Bool.true_and, Bool.false_and, Bool.or_false, hasS_iff]
   constructor
   · intro hm; exact ⟨v, hm, rfl⟩
   · rintro ⟨w, hw, e⟩
     rw [sw_inj hv (words_enum h2 w hw).1 e]; exact hw
 | @scheme ws h2 h3 =>
   rw [den_sch fun w hw => (words_scheme h2 w hw).1]
   simp only [show ¬((3 : Int) = 1) by omega, show ¬((3 : Int) = 2) by omega, show ¬((3 : Int) = 4) by omega, decide_false, decide_true, Bool.false_or, Bool.true_and, Bool.false_and, Bool.or_false]
   rcases cut_colon v with ⟨h, hf⟩ | ⟨a, b, rfl, ha, hf, hc⟩
   · rw [hf]
     simp only [Bool.not_false, Bool.true_or, true_iff]
     refine .inl fun c hc => ⟨sw_lt hv c hc, fun e => sw_no h hv (e ▸ hc)⟩
   · rw [hf, hc]
     have hsa : sgnS a := fun c hc => hv c (by simp [hc])
     have hsb : sgnS b := fun c hc => hv c (by simp [hc])
     have e : sw (a ++ 58 :: b) = sw a ++ 26 :: sw b := by rw [sw_append]; rfl
     simp only [Bool.not_true, Bool.false_or, hasS_iff, e]
     constructor
     · intro hm
       exact .inr ⟨a, hm, sw b, by simp, sw_lt hsb⟩
     · rintro (h | ⟨w, hw, r, he, _⟩)
       · exact absurd rfl (h 26 (by simp)).2
       · obtain ⟨k1, _, k3⟩ := words_scheme h2 w hw
         have := first_eq (a := sw a) (b := sw b) (c := sw w) (d := r) (by simpa using he) (sw_no ha hsa) (sw_no (fun c hc e => by have := k3 c hc; rw [e] at this; simp at this) k1)
         rw [sw_inj hsa k1 this]; exact hw
 | mat h1 h2 =>
   simp only [show ¬((4 : Int) = 1) by omega, show ¬((4 : Int) = 2) by omega, show ¬((4 : Int) = 3) by omega, decide_false, decide_true, Bool.false_or, Bool.true_and, Bool.false_and]
   exact rxM_iff h1 h2 hv
end Go.Abs
end
section
set_option maxHeartbeats 1000000
set_option maxRecDepth 100000
namespace Go.Abs
open Go.Proofs Go.Aut
attribute [-simp] getElem?_pos Option.not_isSome List.map_map
def cut12 (c : F.Constraint) : F.Constraint := ⟨c.kind, (c.words.take 10).map (List.take 45), c.regex.take 30⟩
theorem f_law12_few (s : Str) : Fn Tryz.prog n_law12_few [.str s] (.str (s.take 20)) := by
 refine Fn.of_image mixed h_law12_few i_law12_few rfl fun ho => ?_
 unfold c_law12_few
 simp only [oks, ok, and_true] at ho
 simp (disch := omega) [-List.reduceReplicate]
 refine BrKd.mk (fun h => ?_) (fun h => ?_)
 · simp (disch := omega) [-List.reduceReplicate, h]
 · simp (disch := omega) [-List.reduceReplicate, h]
   rw [List.take_of_length_le (by omega)]
theorem f_law12_cut (c : F.Constraint) : Fn Tryz.prog n_law12_cut [c.v] (cut12 c).v := by
 refine Fn.of_image mixed h_law12_cut i_law12_cut rfl fun ho => ?_
 unfold c_law12_cut
 simp only [oks, ok, and_true] at ho
 obtain ⟨kd, ws, rx⟩ := c
 simp at ho
 have hl4 : (List.take 10 ws).length = min 10 ws.length := List.length_take
 obtain ⟨T, hT⟩ : ∃ T : List Str, T = (List.take 10 ws).map (List.take 45) := ⟨_, rfl⟩
 obtain ⟨r30, hr⟩ : ∃ r30 : Str, r30 = rx.take 30 := ⟨_, rfl⟩
 have hcut : cut12 ⟨kd, ws, rx⟩ = ⟨kd, T, r30⟩ := by rw [cut12, hT, hr]
 rw [hcut]
 have main : ∀ N : St → Prop, True := fun _ => trivial
 simp (disch := omega) [-List.reduceReplicate]
 refine BrKd.mk (fun h => ?_) (fun h => ?_)
 all_goals
  first
   | (have e : rx.take 30 = r30 := hr.symm; have : rx.length > 30 := by omega)
   | (have e : rx = r30 := by rw [hr, List.take_of_length_le (by omega)])
  simp (disch := omega) [-List.reduceReplicate]
  clear hr
  refine W_loop (fun (p : Nat × List Str) => ⟨[(1, .ptr 0 0), (2, .ptr 1 0), (3, .ptr 2 0), (4, .int .i64 p.1)],
   [some (.box [.int .i64 kd, .seq 1 (ws.map .str), .str rx]), some (.box [.int .i64 0, .nil 1, .str []]), some (.box [.int .i64 kd, .ref 3 p.2.length, .str r30]), some (.arr ty_string 1 (p.2.map .str))]⟩)
   (fun p => p.1 ≤ (List.take 10 ws).length ∧ p.2.length = p.1 ∧ p.2 ++ ((List.take 10 ws).drop p.1).map (List.take 45) = T) (fun p => (List.take 10 ws).length - p.1) [.b 2 1 ty_string 1] _ (0, []) rfl (by simp [e]) (by simp [hT]) ?_
  clear e
  rintro ⟨k, out⟩ ⟨hk, hol, hi⟩ N hN
  simp only at hk hol hi
  rcases place (List.take 10 ws) k hk with ⟨he, hd⟩ | ⟨hlt, x, hx, hd⟩ <;> rw [hd] at hi
  · simp only [List.map_nil, List.append_nil] at hi
    subst hi
    clear hT hN
    simp (disch := omega) [-List.reduceReplicate]
    repeat' (first | (refine BrKd.mk (fun h => ?_) (fun h => ?_) <;> simp (disch := omega) [*]) | (refine BrK.mk (fun h => ?_) (fun h => ?_) <;> simp (disch := omega) [*]))
    all_goals first | omega | (cases out <;> simp_all) | simp [*]
  · have hx2 : ws[k]? = some x := by rw [List.getElem?_take] at hx; simpa [show k < 10 by omega] using hx
    replace hi := hid hi
    simp (disch := omega) [-List.reduceReplicate, hx2]
    refine BrKd.mk (fun hb => ?_) (fun hb => ?_)
    all_goals
     first
      | (have e45 : x.take 45 = x.take 45 := rfl; have : x.length > 45 := by omega)
      | (have e45 : x.take 45 = x := List.take_of_length_le (by omega))
     simp (disch := omega) [-List.reduceReplicate, hx2]
     refine hN.out _ <| Nx.mk (k + 1, out ++ [x.take 45]) (by simp [e45]) ⟨by simp only; omega, by simp; omega, ?_⟩ (by simp only; omega)
     have hi := hi.out
     simpa using hi
theorem f_lang_Allows3 (c : F.Constraint) (v : Str) (hk : c.kind ≠ 4) : Fn Tryz.prog n_lang_Allows [c.v, .str v] (.bool (F.allowsL c v)) := by
 refine Fn.of_image mixed h_lang_Allows i_lang_Allows rfl fun ho => ?_
 unfold c_lang_Allows
 simp only [oks, ok, and_true] at ho
 obtain ⟨kd, ws, rx⟩ := c
 simp only at hk
 simp (disch := omega) [-List.reduceReplicate]
 refine wcall_flat (F.f_lang_isValue _) rfl fun _ => ?_
 simp (disch := omega) [-List.reduceReplicate, F.allowsL]
 repeat' (first
  | (refine BrKd.mk (fun h => ?_) (fun h => ?_) <;> simp (disch := omega) [*])
  | (refine BrK.mk (fun h => ?_) (fun h => ?_) <;> simp (disch := omega) [*])
  | (refine wcall_flat (F.f_slices_Contains_string ws _) rfl (fun _ => ?_) <;> simp (disch := omega) [*])
  | (refine wcall_flat (by simpa using F.f_strings_Cut1 v 58) rfl (fun _ => ?_) <;> simp (disch := omega) [*]))
def c12 : F.Constraint := ⟨3, [[104, 116, 116, 112, 115]], []⟩
theorem good_c12 : GoodC c12 (schR [[104, 116, 116, 112, 115]]) := .scheme (by decide) (by simp)
theorem f_law12_lives : Fn Tryz.prog n_law12_lives [] (.bool true) := by
 have h1 := f_lang_May good_c12
 have a1 := f_lang_Allows3 c12 [104, 116, 116, 112, 115, 58, 97] (by simp [c12])
 have a2 := f_lang_Allows3 c12 [47, 120] (by simp [c12])
 have a3 := f_lang_Allows3 c12 [106, 97, 118, 97, 115, 99, 114, 105, 112, 116, 58, 97] (by simp [c12])
 rw [show F.allowsL c12 [104, 116, 116, 112, 115, 58, 97] = true by decide] at a1
 rw [show F.allowsL c12 [47, 120] = true by decide] at a2
 rw [show F.allowsL c12 [106, 97, 118, 97, 115, 99, 114, 105, 112, 116, 58, 97] = false by decide] at a3
 simp [c12] at h1 a1 a2 a3
 refine Fn.of_image mixed h_law12_lives i_law12_lives rfl fun ho => ?_
 unfold c_law12_lives
 simp only [oks, ok, and_true] at ho
 simp (disch := omega) [-List.reduceReplicate]
 refine wcall_flat h1 rfl fun _ => ?_
 simp (disch := omega) [-List.reduceReplicate]

 refine wcall_flat a1 rfl fun _ => ?_
 simp (disch := omega) [-List.reduceReplicate]
 refine wcall_flat a2 rfl fun _ => ?_
 simp (disch := omega) [-List.reduceReplicate]
 refine wcall_flat a3 rfl fun _ => ?_
 simp (disch := omega) [-List.reduceReplicate]
end Go.Abs
end
